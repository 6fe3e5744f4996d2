/- image.Files: what lies on the disk of a project: walked. -/
import Derived.Test.YthbnmehbhpakaaaGreatDoorBk20
import Derived.Test.YthbnmehbhpakaaaGreatDoorBk22
import Derived.Test.YthbnmehbhpakaaaGreatDoorBk08
import Derived.Maps.RangeWalk
import Derived.Test.YthbnmehbhpakaaaGreatDoorAl
set_option linter.all false
set_option maxHeartbeats 12800000
set_option maxRecDepth 100000
namespace Go.Proofs.YthbnmehbhpakaaaGreatDoor
open Go.Rows Go.RowKit Go.Shelf Go.Sort
theorem zSg (h:ByteArray):h++⟨#[47]⟩++⟨#[112,97,99,107,97,103,101]⟩=h++pkgF:=by rw[ByteArray.append_assoc];rfl
theorem zSW (h:ByteArray):h++⟨#[47]⟩++⟨#[109,111,100,117,108,101,115]⟩=h++modF:=by rw[ByteArray.append_assoc];rfl
theorem zS4 {d:Dir} {i:Nat} (h:DirK i d) (h0:i≠0):((textB d.path).toList==[47])=false:=by
 have hp:d.path≠[]:=fun e=>h0 (h.2.2 e)
 have hx:=zA8 hp h.1
 have hz:=zCh d.path
 rw[hx,Go.ByteArray.toList_eq]
 show ((sl (segs d.path)).toArray.toList==[47])=false
 rw[List.toList_toArray]
 have hlen:2≤(sl (segs d.path)).length:=by
  have key:∀ k:List (List UInt8),k.length≤(sl k).length:=fun k=>by
   induction k with
   | nil=>exact nR _
   | cons s t ih=>rw[sl,List.length_cons,List.length_cons,List.length_append];omega
  have:=key (segs d.path)
  have h1:1≤d.path.length:=List.length_pos_iff.2 hp
  omega
 cases hb:(sl (segs d.path)==[47]) with
 | false=>rfl
 | true=>
   have:sl (segs d.path)=[47]:=by simpa using hb
   rw[this] at hlen
   simp at hlen
theorem zGr {w:World} {S T:Nat→Prop}:∀ {l:List File} {xs:List Value},Elems rFile w S l xs→Elems rFile w T l xs
 | [],_,h=>h
 | x::l,xs,h=>by
   obtain ⟨cs,rest,e,hh,hr⟩:=h
   exact ⟨cs,rest,e,hh,zGr hr⟩
theorem zS2 {w:World} {base:Nat} {e:TypeId} {v:Value} {l:List File} {S:Nat→Prop} (h:Own rFile w base e v l S):Own rFile w base e v l (fun _=>False):=by
 obtain ⟨h0,xs,h1,h2⟩:=h
 exact ⟨fun b hb=>hb.elim,xs,h1,zGr h2⟩
theorem zJ9 {w:World} {f g:File} (hf:f.path.size≤maxLen∧f.data.size≤maxLen) (hg:g.path.size≤maxLen∧g.data.size≤maxLen) {S:Nat→Prop}:Elems rFile w S [f,g] [.string f.path,.bool f.dir,.string f.data,.string g.path,.bool g.dir,.string g.data]:=
 ⟨_,_,(rfl:[Value.string f.path,.bool f.dir,.string f.data,.string g.path,.bool g.dir,.string g.data]=[.string f.path,.bool f.dir,.string f.data]++[.string g.path,.bool g.dir,.string g.data]),⟨rfl,hf⟩,_,[],(List.append_nil _).symm,⟨rfl,hg⟩,rfl⟩
theorem zSP {w:World} {base:Nat} (hb:base≤w.heap.size) {f g:File} (hf:f.path.size≤maxLen∧f.data.size≤maxLen) (hg:g.path.size≤maxLen∧g.data.size≤maxLen) :
  Own rFile (w.alloc (.cells #[.string f.path,.bool f.dir,.string f.data,.string g.path,.bool g.dir,.string g.data] 45)) base 45 (.slice (some ⟨w.heap.size,0,none⟩) 2 2) [f,g] (fun _=>False):=
 ⟨fun b h=>h.elim,_,⟨rfl,.inr ⟨w.heap.size,2,_,rfl,hb,heap_alloc_new w _,nR _,by decide,rfl,rfl⟩⟩,zJ9 hf hg⟩
theorem zSh {w:World} {g0:Nat} {f g:File} (h:w.heap[g0]?=some (.cells #[.string f.path,.bool f.dir,.string f.data,.string g.path,.bool g.dir,.string g.data] 45 (0,0))) (hf:f.path.size≤maxLen∧f.data.size≤maxLen) (hg:g.path.size≤maxLen∧g.data.size≤maxLen) :
  SlV rFile w (fun b=>b=g0) [f,g] (.slice (some ⟨g0,0,none⟩) 2 2):=
 SlV.of_block (S:=fun b=>b=g0) (l:=[f,g]) h (zJ9 hf hg) rfl (n:=2) rfl (nR 2) (by decide)
def zDA (s:Proj):List File:=[⟨manF,false,zAR s.man⟩,⟨lokF,false,zAo s.nodes⟩]
def zIT (s:Proj):List File:=if s.pruned=true then [⟨pruF,false,emB⟩] else []
theorem zO2 (s:Proj):imgU s=(zDA s++zIT s)++zAX s.dirs 0 s.dirs:=by unfold imgU zDA zIT;rw[List.append_assoc]
theorem zCI {b:ByteArray} {n:Nat} (h:b.size≤n) (hn:n≤1000000000):b.size≤maxLen:=by unfold maxLen;omega
theorem zFY (s:Proj) (v:Value) (w:World) (S:Nat→Prop) (ht:Tab w) (hz:ProjZ s) (hv:ProjV w S s v) :
  Calls Tryz.prog 8 #[v] w fun e w'=>(∃ u,e=.returned (.tuple #[u,.int .i64 (imgF s).2])∧SlV rFile w' (fun b=>w.heap.size≤b) (imgF s).1 u)∧Below w.heap.size w w':=by
 have HPl:Hid (∀ W,Below w.heap.size w W→Calls Tryz.prog 23 #[v] W fun e w'=>e=.returned (.bool (zCY s))∧Below W.heap.size W w'):=fun W hW=>zNb s v W S (zAG ht hW) hz (hv.keep hW)
 have HEm:Hid (∀ W,Below w.heap.size w W→Calls Tryz.prog 24 #[v] W fun e w'=>e=.returned (.bool (zBn s))∧Below W.heap.size W w'):=fun W hW=>zPi s v W S (hv.keep hW)
 obtain ⟨A0,n0,c0,A1,n1,c1,A2,n2,c2,A3,n3,c3,A4,n4,c4,A5,n5,c5,rfl,h0,h1,h2,h3,h4,h5⟩:=hv
 have hn5:=h5.n_eq
 have hc5:=h5.cap_le
 unfold maxLen at hc5
 have HMp:Hid (∀ W,Below w.heap.size w W→Calls Tryz.prog 21 #[.agg #[.slice A0 n0 c0,.slice A1 n1 c1,.slice A2 n2 c2,.slice A3 n3 c3]] W fun e w'=>e=.returned (.tuple #[.string (maniP s.man).1,.int .i64 (maniP s.man).2])∧Below W.heap.size W w'):=fun W hW=>
  zJq s.man _ W S (zAG ht hW) ⟨_,_,_,_,_,_,_,_,_,_,_,_,rfl,h0.belowSize hW,h1.belowSize hW,h2.belowSize hW,h3.belowSize hW⟩
 have HLk:Hid (∀ W,Below w.heap.size w W→Calls Tryz.prog 22 #[.agg #[.slice A4 n4 c4]] W fun e w'=>e=.returned (.tuple #[.string (lockP s.nodes).1,.int .i64 (lockP s.nodes).2])∧Below W.heap.size W w'):=fun W hW=>zI6 A4 n4 c4 s.nodes W S (zAG ht hW) (h4.belowSize hW) hz.1
 have HIn:Hid (∀ (k:Nat) W,Below w.heap.size w W→Calls Tryz.prog 27 #[.agg #[.slice A5 n5 c5],.int .i64 (k:Int)] W fun e w'=>(∃ v,e=.returned v∧SlV rInt w' (fun b=>W.heap.size≤b) (castL (zBC s.dirs k)) v)∧Below W.heap.size W w'):=fun k W hW=>by
  have:=zOH A5 n5 c5 s.dirs (k:Int) W S (h5.belowSize hW) hz.2.2 hz.2.1
  rwa [zMF] at this
 have HD:=cH h5
 have Hn:=cH hn5
 have Ht:=cH ht
 have Hlen:=cH hz.2.2
 have HFm:Hid (imgF s=if mayI s=true then (if zBn s=true then ([],0) else (sortS (imgU s),0)) else ([],43)):=rfl
 have HMay:Hid (mayI s=(maniB s.man&&(lockB s.nodes&&zCY s))):=rfl
 have HMq:Hid ((maniB s.man=true∧maniP s.man=(zAR s.man,0)∧(zAR s.man).size≤4096)∨(maniB s.man=false∧maniP s.man=(⟨#[]⟩,25))):=by
  cases hb:maniB s.man with
  | true=>
    refine .inl ⟨rfl,by unfold maniP;rw[if_pos hb],?_⟩
    unfold maniB at hb
    simp only[Bool.and_eq_true,decide_eq_true_eq] at hb
    exact hb.2.2.2.2.2
  | false=>exact .inr ⟨rfl,by unfold maniP;rw[if_neg (by rw[hb];decide)]⟩
 have HLq:Hid ((lockB s.nodes=true∧lockP s.nodes=(zAo s.nodes,0)∧(zAo s.nodes).size≤1400000)∨(lockB s.nodes=false∧lockP s.nodes=(⟨#[]⟩,33))):=by
  cases hb:lockB s.nodes with
  | true=>exact .inl ⟨rfl,by unfold lockP;rw[if_pos hb],nT (zEq hb) (by decide)⟩
  | false=>exact .inr ⟨rfl,by unfold lockP;rw[if_neg (by rw[hb];decide)]⟩
 have HUp:=cH (zO2 s)
 have HUn:Hid (mayI s=true→((imgU s).map (·.path)).Nodup):=fun h=>zBw h
 have HUl:=cH (zJa s)
 have HCk:Hid (mayI s=true→zAe s.dirs=0):=fun h=>zAv h
 have Hpr:Hid (zIT s=if s.pruned=true then [⟨pruF,false,emB⟩] else []):=rfl
 have Hhd:Hid (zDA s=[⟨manF,false,zAR s.man⟩,⟨lokF,false,zAo s.nodes⟩]):=rfl
 have hnz:n5≤1048576:=by have:=hz.2.1;omega
 clear h0 h1 h2 h3 h4 h5 hn5 hz ht
 obtain ⟨w0,hw0⟩:∃ w0,w0=w.alloc (.cells #[.slice A0 n0 c0,.slice A1 n1 c1,.slice A2 n2 c2,.slice A3 n3 c3,.slice A4 n4 c4,.slice A5 n5 c5,.bool s.pruned] 32):=⟨_,rfl⟩
 have HB0:Hid (Below w.heap.size w w0):=by unfold Hid;rw[hw0];exact bal (bR _ _) _
 have HQ0:Hid (w0.heap[w.heap.size]?=some (.cells #[.slice A0 n0 c0,.slice A1 n1 c1,.slice A2 n2 c2,.slice A3 n3 c3,.slice A4 n4 c4,.slice A5 n5 c5,.bool s.pruned] 32 (0,0))):=by unfold Hid;rw[hw0];exact zAT _ _
 have hq0:w.heap.size<w0.heap.size:=(aS.1 HQ0.out).1
 have Hst:Hid (∀ W,Below w0.heap.size w0 W→W.cell? ⟨w.heap.size,0,none⟩=some (.slice A0 n0 c0)∧W.cell? ⟨w.heap.size,1,none⟩=some (.slice A1 n1 c1)∧W.cell? ⟨w.heap.size,2,none⟩=some (.slice A2 n2 c2)∧W.cell? ⟨w.heap.size,3,none⟩=some (.slice A3 n3 c3)∧W.cell? ⟨w.heap.size,4,none⟩=some (.slice A4 n4 c4)∧W.cell? ⟨w.heap.size,5,none⟩=some (.slice A5 n5 c5)∧W.cell? ⟨w.heap.size,6,none⟩=some (.bool s.pruned)):=fun W hW=>by
  have hX:=(hW.block _ hq0).trans HQ0.out
  exact ⟨cO _ _ 0 _ _ _ hX,cO _ _ 1 _ _ _ hX,cO _ _ 2 _ _ _ hX,cO _ _ 3 _ _ _ hX,cO _ _ 4 _ _ _ hX,cO _ _ 5 _ _ _ hX,cO _ _ 6 _ _ _ hX⟩
 generalize imgF s=R at *
 generalize mayI s=my at *
 generalize zBn s=em at *
 generalize zCY s=pb at *
 generalize maniP s.man=mp at *
 generalize lockP s.nodes=lp at *
 generalize maniB s.man=mb at *
 generalize lockB s.nodes=lb at *
 generalize zAR s.man=mt at *
 generalize zAo s.nodes=lt at *
 go_enter Tryz.func8,Tryz.ntmps8
 go_wp2_with fail
 rw[←hw0]
 clear hw0
 refine (HMp.out w0 HB0.out).mono ?_
 rintro e w1 ⟨rfl,hb1⟩
 have HB1:=cH hb1
 obtain ⟨x0,x1,x2,x3,x4,x5,x6⟩:=Hst.out w1 hb1
 clear hb1 HMp
 rcases HMq.out with ⟨rfl,rfl,hmz⟩|⟨rfl,rfl⟩
 case inr=>
  have hR:R=([],43):=by rw[HFm.out,HMay.out];rfl
  subst hR
  clear HFm HMay
  go_wp2_with fail
  go_ret2
  exact ⟨⟨_,rfl,SlV.nil_ _ _ _⟩,bot HB0.out HB1.out⟩
 go_wp2_with fail
 refine (HLk.out w1 (bot HB0.out HB1.out)).mono ?_
 rintro e w2 ⟨rfl,hb2⟩
 have HB2:=cH (bot HB1.out hb2)
 obtain ⟨x0,x1,x2,x3,x4,x5,x6⟩:=Hst.out w2 HB2.out
 clear hb2 HLk
 rcases HLq.out with ⟨rfl,rfl,hlz⟩|⟨rfl,rfl⟩
 case inr=>
  have hR:R=([],43):=by rw[HFm.out,HMay.out];rfl
  subst hR
  clear HFm HMay
  go_wp2_with fail
  go_ret2
  exact ⟨⟨_,rfl,SlV.nil_ _ _ _⟩,bot HB0.out HB2.out⟩
 go_wp2_with fail
 refine (HPl.out w2 (bot HB0.out HB2.out)).mono ?_
 rintro e w3 ⟨rfl,hb3⟩
 have HB3:=cH (bot HB2.out hb3)
 obtain ⟨x0,x1,x2,x3,x4,x5,x6⟩:=Hst.out w3 HB3.out
 clear hb3 HPl
 cases pb with
 | false=>
   have hR:R=([],43):=by rw[HFm.out,HMay.out];rfl
   subst hR
   clear HFm HMay
   go_wp2_with fail
   go_ret2
   exact ⟨⟨_,rfl,SlV.nil_ _ _ _⟩,bot HB0.out HB3.out⟩
 | true=>
 have hmy:my=true:=HMay.out
 subst hmy
 have HFm2:Hid (R=if em=true then ([],0) else (sortS (imgU s),0)):=by unfold Hid;rw[HFm.out,if_pos rfl]
 go_wp2_with fail
 refine (HEm.out w3 (bot HB0.out HB3.out)).mono ?_
 rintro e w4 ⟨rfl,hb4⟩
 have HB4:=cH (bot HB3.out hb4)
 obtain ⟨x0,x1,x2,x3,x4,x5,x6⟩:=Hst.out w4 HB4.out
 clear hb4 HEm HFm HMay
 cases em with
 | true=>
   have hR:R=([],0):=by rw[HFm2.out,if_pos rfl]
   subst hR
   clear HFm2
   go_wp2_with fail
   go_ret2
   exact ⟨⟨_,rfl,SlV.nil_ _ _ _⟩,bot HB0.out HB4.out⟩
 | false=>
 have hR:R=(sortS (imgU s),0):=by rw[HFm2.out,if_neg (by decide)]
 subst hR
 have HUn2:=cH (HUn.out trivial)
 have HCk2:=cH (HCk.out trivial)
 clear HFm2 HUn HCk HMq HLq HB3 HB2 HB1
 go_upto_region 10 with (fail)
 have hmt:mt.size≤maxLen:=zCI hmz (by decide)
 have hlt:lt.size≤maxLen:=zCI hlz (by decide)
 have HO5:Hid (Own rFile (w4.alloc (.cells #[.string manF,.bool false,.string mt,.string lokF,.bool false,.string lt] 45)) w4.heap.size 45 (.slice (some ⟨w4.heap.size,0,none⟩) 2 2) (zDA s) (fun _=>False)):=by
  unfold Hid
  rw[Hhd.out]
  exact zSP (f:=⟨manF,false,mt⟩) (g:=⟨lokF,false,lt⟩) (nR _) ⟨show manF.size≤maxLen by decide,hmt⟩ ⟨show lokF.size≤maxLen by decide,hlt⟩
 obtain ⟨w5,hw5⟩:∃ w5,w5=w4.alloc (.cells #[.string manF,.bool false,.string mt,.string lokF,.bool false,.string lt] 45):=⟨_,rfl⟩
 have HB5:Hid (Below w4.heap.size w4 w5):=by unfold Hid;rw[hw5];exact bal (bR _ _) _
 rw[←hw5] at HO5
 rw[show (⟨#[47,109,97,110,105,102,101,115,116]⟩:ByteArray)=manF from rfl,show (⟨#[47,108,111,99,107]⟩:ByteArray)=lokF from rfl,←hw5]
 obtain ⟨x0,x1,x2,x3,x4,x5,x6⟩:=Hst.out w5 (bot HB4.out HB5.out)
 clear hw5 hmt hlt
 have hz5:=HB5.out.size
 refine dite (s.pruned=true) (fun hpr=>?_) (fun hpr=>?_)
 focus
  rw[hpr] at x6
  have Hac:Hid (zDA s++[(⟨pruF,false,emB⟩:File)]=zDA s++zIT s):=by unfold Hid;rw[Hpr.out,if_pos hpr]
  have Hhl:Hid ((zDA s).length=2):=by unfold Hid;rw[Hhd.out];rfl
  go_wp2_with (at_builtin;refine zAb (by rfl) _ _ _ (by rfl) zFe Tryz.underlying33 (by rfl) (HO5.out.alloc _) ⟨w5.heap.size,0,none⟩ 1 [.string pruF,.bool false,.string emB] ⟨pruF,false,emB⟩ (by rfl) ⟨rfl,by decide,by decide⟩ (zAz w5 #[.string pruF,.bool false,.string emB] _) (by rw[Hhl.out];decide) (by rw[Hhl.out];decide) (by simp;omega) (w5.heap.size+1) (by simp) ?_)
  intro g6 cap6 w6 hown6 hgrow6 hat6 hg6
  have HB6:=cH (zC3 (bal HB5.out _) hgrow6 (HO5.out.alloc _) (nR _))
  rw[Hac.out] at hown6
  have HO6:=cH hown6
  obtain ⟨x0,x1,x2,x3,x4,x5,x6⟩:=Hst.out w6 (bot HB4.out HB6.out)
  clear hown6 hgrow6 hat6 hg6 Hac Hhl HO5
 rotate_left
 focus
  have hprf:s.pruned=false:=by simpa using hpr
  rw[hprf] at x6
  have Hac:Hid (zDA s=zDA s++zIT s):=by unfold Hid;rw[Hpr.out,if_neg hpr,List.append_nil]
  have HO6':=HO5.out
  rw[Hac.out] at HO6'
  have HO6:=cH HO6'
  have HB6:=HB5
  obtain ⟨w6,hw6⟩:∃ w6,w6=w5:=⟨_,rfl⟩
  rw[←hw6] at HO6 HB6 x0 x1 x2 x3 x4 x5 x6
  rw[←hw6]
  clear HO6' HO5 hw6 Hac hprf
 all_goals
  clear hpr HB5 hz5 Hhd Hpr
  generalize zDA s++zIT s=acc1 at *
  go_wp2_with fail
  clear x0 x1 x2 x3 x4 x5 x6
  go_loopw [7,51] (fun v i wr=>∃ k:Nat,k≤n5∧i=.int .i64 k∧Hid (Own rFile wr w4.heap.size 45 v (acc1++zAX s.dirs 0 (s.dirs.take k)) (fun _=>False))∧Hid (Below w4.heap.size w4 wr)) (fun _ i _=>n5 - (intOf i).toNat)
  case atStart=>exact ⟨0,nZ _,rfl,by unfold Hid;rw[show acc1++zAX s.dirs 0 (s.dirs.take 0)=acc1 from List.append_nil _];exact HO6.out,HB6⟩
  case round=>
   clear HO6 HB6
   obtain ⟨k,hk,rfl,HO,HB⟩:=hrel
   have hk0:(0:Int)≤(k:Int):=by omega
   have HBw:=cH (bot HB0.out (bot HB4.out HB.out))
   have hzr:=HB.out.size
   by_cases hlt:k<n5
   case neg=>
    obtain rfl:n5=k:=by omega
    have hI:¬(n5:Int)<(n5:Int):=by omega
    have hall:s.dirs.take n5=s.dirs:=List.take_of_length_le (by rw[←Hn.out];exact nR _)
    have hO:=HO.out
    rw[hall,←HUp.out] at hO
    have HS:=cH (zGD _ (imgU s) wr w4.heap.size hO (by have:=HUl.out.2;have:=(zC7 HCk2.out).2;omega) (by have:=HUl.out.1;omega) HUn2.out)
    have hzr':=HB.out.size
    clear HO hall hO
    go_wp2_with fail
    refine HS.out.mono ?_
    rintro e w7 ⟨rfl,hs7,hb7⟩
    have HB7:=cH (HB.out.trans (hb7 hzr'))
    have HS7:=cH hs7
    clear hs7 hb7 HS
    go_wp2_with fail
    go_ret2
    exact ⟨⟨_,rfl,HS7.out.more fun b hb _=>nT (bot HB0.out HB4.out).size hb⟩,bot HB0.out (bot HB4.out HB7.out)⟩
   have hkI:(k:Int)<(n5:Int):=by omega
   have hkl:k<s.dirs.length:=by rw[←Hn.out];exact hlt
   obtain ⟨d,hd⟩:∃ d,s.dirs[k]?=some d:=⟨_,gE hkl⟩
   have HK:Hid (DirK k d):=zB5 HCk2.out k d hd
   have Htk:=cH (zKI (xs:=s.dirs) hd)
   have HId:Hid (zBm s.dirs k d=(if k=0 then [] else [⟨textB d.path,true,emB⟩,⟨textB d.path++pkgF,false,zAW d.pack⟩])++(if zBC s.dirs k=[] then [] else [⟨if k=0 then modF else textB d.path++modF,true,emB⟩])):=rfl
   have HPk:Hid (k≠0→packB d.pack=true∧(textB d.path).size≤1024):=fun h=>zEV HCk2.out hd (by omega)
   have hal:(acc1++zAX s.dirs 0 (s.dirs.take k)).length≤1000000:=by
    have h1:=zEw s.dirs (s.dirs.take k) 0
    have h2:=(zC7 HCk2.out).2
    have h3:=congrArg List.length HUp.out
    have h4:=HUl.out.2
    rw[List.length_append] at h3 ⊢
    rw[List.length_take] at h1
    omega
   obtain ⟨b,o,pA,pc,B1,b1,B2,b2,B3,b3,rfl,hb,hp,hpk,hnd,d0,d1,d2,d3,d4,d5,d6,d7,d8⟩:=zIy HD.out hd
   have d0:=zAA HBw.out d0 hb
   have d1:=zAA HBw.out d1 hb
   have d2:=zAA HBw.out d2 hb
   have d3:=zAA HBw.out d3 hb
   have d4:=zAA HBw.out d4 hb
   have d5:=zAA HBw.out d5 hb
   have d6:=zAA HBw.out d6 hb
   have d7:=zAA HBw.out d7 hb
   have d8:=zAA HBw.out d8 hb
   have HT2:Hid (∀ W,Below w.heap.size w W→Calls Tryz.prog 18 #[.slice pA d.path.length pc] W fun e w'=>e=.returned (.string (textB d.path))∧Below W.heap.size W w'):=fun W hW=>
    zBd pA _ pc d.path W (fun b=>b<W.heap.size) (fun _ h=>h) (Hlen.out d (mG hd)) ((hp.belowSize hW).more fun _ _ h=>h)
   have HPp:Hid (∀ W,Below w.heap.size w W→Calls Tryz.prog 25 #[.agg #[.string d.pack.name,.int .i64 d.pack.ver.major,.int .i64 d.pack.ver.minor,.int .i64 d.pack.ver.patch,.slice B1 d.pack.deps.length b1,.slice B2 d.pack.peers.length b2,.slice B3 d.pack.opts.length b3]] W fun e w'=>e=.returned (.tuple #[.string (packP d.pack).1,.int .i64 (packP d.pack).2])∧Below W.heap.size W w'):=fun W hW=>zJD d.pack _ W S (zAG Ht.out hW) (hpk.keep hW)
   have HPq:Hid (packB d.pack=true→packP d.pack=(zAW d.pack,0)∧(zAW d.pack).size≤4096):=fun h=>by
    refine ⟨by unfold packP;rw[if_pos h],?_⟩
    unfold packB at h
    simp only[Bool.and_eq_true,decide_eq_true_eq] at h
    exact h.2.2.2.2.2.2
   have HIn2:=cH (HIn.out k)
   have HRt:Hid (k=0→textB d.path=⟨#[47]⟩):=fun h=>by rw[(HK.out.2.1 h)];rfl
   have HNe:Hid (k≠0→((textB d.path).toList==[47])=false):=fun h=>zS4 HK.out h
   obtain ⟨accK,haccK⟩:∃ accK,accK=acc1++zAX s.dirs 0 (s.dirs.take k):=⟨_,rfl⟩
   have HNx:Hid (acc1++zAX s.dirs 0 (s.dirs.take (k+1))=accK++zBm s.dirs k d):=by unfold Hid;rw[Htk.out,haccK,List.append_assoc]
   rw[←haccK] at HO hal
   clear hd hp hpk hnd Htk haccK
   generalize zBm s.dirs k d=idk at *
   generalize zBC s.dirs k=il at *
   generalize textB d.path=hm at *
   generalize zAW d.pack=pt at *
   generalize packP d.pack=pp at *
   generalize packB d.pack=pbd at *
   generalize d.pack.deps.length=g1 at *
   generalize d.pack.peers.length=g2 at *
   generalize d.pack.opts.length=g3 at *
   generalize d.pack.name=nm at *
   generalize d.pack.ver.major=v1 at *
   generalize d.pack.ver.minor=v2 at *
   generalize d.pack.ver.patch=v3 at *
   generalize d.node=dn at *
   generalize d.path.length=pn at *
   go_upto_region 15 with (fail)
   obtain ⟨w8,hw8⟩:∃ w8,w8=wr.alloc (.cells #[.slice pA pn pc,.string nm,.int .i64 v1,.int .i64 v2,.int .i64 v3,.slice B1 g1 b1,.slice B2 g2 b2,.slice B3 g3 b3,.int .i64 dn] 59):=⟨_,rfl⟩
   have hq8:w8.heap[wr.heap.size]?=some (.cells #[.slice pA pn pc,.string nm,.int .i64 v1,.int .i64 v2,.int .i64 v3,.slice B1 g1 b1,.slice B2 g2 b2,.slice B3 g3 b3,.int .i64 dn] 59 (0,0)):=by rw[hw8];exact zAT _ _
   have hb8:Below wr.heap.size wr w8:=by rw[hw8];exact bal (bR _ _) _
   rw[←hw8]
   have HO8:=cH (HO.out.keep hb8)
   have HB8:=cH (HB.out.trans (hb8.mono HB.out.size))
   have HBw8:=cH (bot HBw.out hb8)
   have Hd8:Hid (∀ W,Below w8.heap.size w8 W→W.cell? ⟨wr.heap.size,0,none⟩=some (.slice pA pn pc)∧W.cell? ⟨wr.heap.size,1,none⟩=some (.string nm)∧W.cell? ⟨wr.heap.size,2,none⟩=some (.int .i64 v1)∧W.cell? ⟨wr.heap.size,3,none⟩=some (.int .i64 v2)∧W.cell? ⟨wr.heap.size,4,none⟩=some (.int .i64 v3)∧W.cell? ⟨wr.heap.size,5,none⟩=some (.slice B1 g1 b1)∧W.cell? ⟨wr.heap.size,6,none⟩=some (.slice B2 g2 b2)∧W.cell? ⟨wr.heap.size,7,none⟩=some (.slice B3 g3 b3)):=fun W hW=>by
    have hX:=(hW.block _ (aS.1 hq8).1).trans hq8
    exact ⟨cO _ _ 0 _ _ _ hX,cO _ _ 1 _ _ _ hX,cO _ _ 2 _ _ _ hX,cO _ _ 3 _ _ _ hX,cO _ _ 4 _ _ _ hX,cO _ _ 5 _ _ _ hX,cO _ _ 6 _ _ _ hX,cO _ _ 7 _ _ _ hX⟩
   clear hw8 hq8 hb8 HO HB HBw d0 d1 d2 d3 d4 d5 d6 d7 d8
   obtain ⟨y0,y1,y2,y3,y4,y5,y6,y7⟩:=Hd8.out w8 (bR _ _)
   go_wp2_with fail
   refine (HT2.out w8 HBw8.out).mono ?_
   rintro e w9 ⟨rfl,hb9⟩
   have HB89:=cH hb9
   have HO9:=cH (HO8.out.keep hb9)
   have HB9:=cH (HB8.out.trans (hb9.mono HB8.out.size))
   have HBw9:=cH (bot HBw8.out hb9)
   obtain ⟨y0,y1,y2,y3,y4,y5,y6,y7⟩:=Hd8.out w9 hb9
   clear hb9 HT2 HO8 HB8 HBw8
   refine dite (k=0) (fun hk00=>?_) (fun hk00=>?_)
   focus
    have hkg:¬(0:Int)<(k:Int):=by omega
    have hhm:=HRt.out hk00
    have HW:Hid (∀ W,Calls Tryz.prog 26 #[.string hm,.string ⟨#[109,111,100,117,108,101,115]⟩] W fun e w'=>e=.returned (.string modF)∧W=w'):=fun W=>by
     rw[hhm]
     exact zLq ⟨#[109,111,100,117,108,101,115]⟩ W (by decide)
    have HNy:Hid (acc1++zAX s.dirs 0 (s.dirs.take (k+1))=accK++(if il=[] then [] else [⟨modF,true,emB⟩])):=by unfold Hid;rw[HNx.out,HId.out,if_pos hk00,if_pos hk00,List.nil_append]
    obtain ⟨pm,hpm⟩:∃ pm,pm=modF:=⟨_,rfl⟩
    rw[←hpm] at HW HNy
    have Hpz:Hid (pm.size≤2000):=by unfold Hid;rw[hpm];decide
    obtain ⟨accx,haccx⟩:∃ accx,accx=accK:=⟨_,rfl⟩
    obtain ⟨wx,hwx⟩:∃ wx,wx=w9:=⟨_,rfl⟩
    have HOx:=HO9
    have HBx:=HB9
    have HBwx:=HBw9
    rw[←haccx] at HOx HNy
    rw[←hwx] at HOx HBx HBwx
    have hax:accx.length≤1000002:=by rw[haccx];omega
    clear hpm hhm HO9 HB9 HBw9 HB89 hk00 haccx HId HNx HPp
    go_upto_region 21 with (fail)
    rw[←hwx]
    clear hwx y0 y1 y2 y3 y4 y5 y6 y7
   rotate_left
   focus
    have hkg:(0:Int)<(k:Int):=by omega
    obtain ⟨hpb,hmz2⟩:=HPk.out hk00
    obtain ⟨hpp,hpz⟩:=HPq.out hpb
    have hne:=HNe.out hk00
    have HW1:Hid (∀ W,Calls Tryz.prog 26 #[.string hm,.string ⟨#[112,97,99,107,97,103,101]⟩] W fun e w'=>e=.returned (.string (hm++pkgF))∧W=w'):=fun W=>by
     have:=zHB hm ⟨#[112,97,99,107,97,103,101]⟩ W (by omega) (by decide) hne
     rwa [zSg] at this
    have HW:Hid (∀ W,Calls Tryz.prog 26 #[.string hm,.string ⟨#[109,111,100,117,108,101,115]⟩] W fun e w'=>e=.returned (.string (hm++modF))∧W=w'):=fun W=>by
     have:=zHB hm ⟨#[109,111,100,117,108,101,115]⟩ W (by omega) (by decide) hne
     rwa [zSW] at this
    have hkz:(hm++pkgF).size≤2000:=by rw[ByteArray.size_append];have:pkgF.size=8:=rfl;omega
    have Hmz2:=cH hmz2
    have Hkz:=cH hkz
    have Hpz2:=cH hpz
    have HNy0:Hid (acc1++zAX s.dirs 0 (s.dirs.take (k+1))=(accK++[⟨hm,true,emB⟩,⟨hm++pkgF,false,pt⟩])++(if il=[] then [] else [⟨hm++modF,true,emB⟩])):=by unfold Hid;rw[HNx.out,HId.out,if_neg hk00,if_neg hk00,List.append_assoc]
    rw[hpp] at HPp
    clear hk00 hne hpb hmz2 hkz hpz HId HNx HPk HPq HNe HRt
    go_wp2_with fail
    refine (HPp.out w9 HBw9.out).mono ?_
    rintro e wa ⟨rfl,hba⟩
    have HOa:=cH (HO9.out.keep hba)
    have HBa:=cH (HB9.out.trans (hba.mono HB9.out.size))
    have HBwa:=cH (bot HBw9.out hba)
    clear hba HO9 HB9 HBw9 HPp y0 y1 y2 y3 y4 y5 y6 y7
    go_wp2_with fail
    refine (HW1.out _).mono ?_
    rintro e wb ⟨rfl,rfl⟩
    have HRow:Hid ((wa.alloc (.cells #[.string hm,.bool true,.string emB,.string (hm++pkgF),.bool false,.string pt] 45)).heap[wa.heap.size]?=some (.cells #[.string hm,.bool true,.string emB,.string (hm++pkgF),.bool false,.string pt] 45 (0,0))):=zAT _ _
    have hzb:w4.heap.size≤wa.heap.size:=HBa.out.size
    have HSl:=cH (zSh (f:=⟨hm,true,emB⟩) (g:=⟨hm++pkgF,false,pt⟩) HRow.out ⟨zCI Hmz2.out (by decide),show emB.size≤maxLen by decide⟩ ⟨zCI Hkz.out (by decide),zCI Hpz2.out (by decide)⟩)
    have Hlo:=cH HOa.out.lt
    clear HW1
    go_wp2_with (at_builtin;refine zCd (by rfl) _ _ _ (by rfl) zFe Tryz.underlying33 (by rfl) (HOa.out.alloc _) (fun b=>b=wa.heap.size) [⟨hm,true,emB⟩,⟨hm++pkgF,false,pt⟩] _ _ _ (by rfl) HSl.out (by intro b hb he;have:=(Hlo.out b he).2;omega) (by unfold maxLen;simp only[List.length_cons,List.length_nil];omega) (by simp only[List.length_cons,List.length_nil];omega) (by simp;omega) ?_)
    intro vx wx hownx hgrowx hatx
    have HBx:=cH (zC3 (w:=w4) (Below.alloc HBa.out HBa.out.size _) hgrowx (HOa.out.alloc _) (nR _))
    have HOx:=cH (zS2 hownx)
    have HBwx:=cH (bot HB0.out (bot HB4.out HBx.out))
    obtain ⟨accx,haccx⟩:∃ accx,accx=accK++[⟨hm,true,emB⟩,⟨hm++pkgF,false,pt⟩]:=⟨_,rfl⟩
    obtain ⟨pm,hpm⟩:∃ pm,pm=hm++modF:=⟨_,rfl⟩
    have Hpz:Hid (pm.size≤2000):=by unfold Hid;rw[hpm,ByteArray.size_append];have:modF.size=8:=rfl;have:=Hmz2.out;omega
    have HNy:=HNy0
    rw[←haccx] at HOx HNy
    rw[←hpm] at HW HNy
    have hax:accx.length≤1000002:=by rw[haccx,List.length_append];simp only[List.length_cons,List.length_nil];omega
    clear hownx hgrowx hatx haccx hpm HNy0 HOa HBa HBwa HSl HRow Hlo Hmz2 Hkz Hpz2
    go_upto_region 21 with (fail)
   all_goals
    obtain ⟨x0,x1,x2,x3,x4,x5,x6⟩:=Hst.out wx (bot HB4.out HBx.out)
    go_wp2_with fail
    refine (HIn2.out wx HBwx.out).mono ?_
    rintro e wy ⟨⟨iv,rfl,hiv⟩,hby⟩
    obtain ⟨iA,ic,rfl,_,_⟩:=hiv.val
    have HOy:=cH (HOx.out.keep hby)
    have HBy:=cH (HBx.out.trans (hby.mono HBx.out.size))
    have hcl:(castL il).length=il.length:=by unfold castL;rw[List.length_map]
    clear hiv hby HOx HBx HBwx x0 x1 x2 x3 x4 x5 x6
    rw[hcl]
    clear hcl
    have hzy:=HBy.out.size
    by_cases hm0:il=[]
    ·have hI2:¬(0:Int)<((il.length:Nat):Int):=by rw[hm0];decide
     have Hfin:Hid (acc1++zAX s.dirs 0 (s.dirs.take (k+1))=accx):=by unfold Hid;rw[HNy.out,if_pos hm0,List.append_nil]
     clear hm0 HNy
     generalize il.length=iln at *
     go_wp2_with fail
     go_roundw
     case rel=>exact ⟨k+1,by omega,by go_num,by unfold Hid;rw[Hfin.out];exact HOy.out,HBy⟩
     case measure=>simp[intOf];omega
    ·have hI2:(0:Int)<((il.length:Nat):Int):=by have:=List.length_pos_iff.2 hm0;omega
     have Hfin:Hid (acc1++zAX s.dirs 0 (s.dirs.take (k+1))=accx++[⟨pm,true,emB⟩]):=by unfold Hid;rw[HNy.out,if_neg hm0]
     have hpz2:=Hpz.out
     clear hm0 HNy
     generalize il.length=iln at *
     go_wp2_with fail
     refine (HW.out _).mono ?_
     rintro e wz ⟨rfl,rfl⟩
     clear HW
     go_wp2_with (at_builtin;refine zAb (by rfl) _ _ _ (by rfl) zFe Tryz.underlying33 (by rfl) (HOy.out.alloc _) ⟨wy.heap.size,0,none⟩ 1 [.string pm,.bool true,.string emB] ⟨pm,true,emB⟩ (by rfl) ⟨rfl,zCI hpz2 (by decide),show emB.size≤maxLen by decide⟩ (zAz wy #[.string pm,.bool true,.string emB] _) (by unfold maxLen;omega) (by omega) (by simp;omega) (wy.heap.size+1) (by simp) ?_)
     intro gz capz wz hownz hgrowz hatz hgz
     have HBz:=cH (zC3 (w:=w4) (Below.alloc HBy.out HBy.out.size _) hgrowz (HOy.out.alloc _) (nR _))
     have HOz:=cH hownz
     clear hownz hgrowz hatz hgz HOy HBy
     go_wp2_with fail
     go_roundw
     case rel=>exact ⟨k+1,by omega,by go_num,by unfold Hid;rw[Hfin.out];exact HOz.out,HBz⟩
     case measure=>simp[intOf];omega
end Go.Proofs.YthbnmehbhpakaaaGreatDoor
namespace Go.Proofs.YthbnmehbhpakaaaGreatDoor
open Go.Rows Go.RowKit Go.Shelf Go.Maps
theorem zIZ {key:Value} {kl:Lit} (h:keyOf Tryz.prog 9 key=some kl):∃ x:ByteArray,key=.string x∧kl=.string x.data.toList:=by
 rw[keyOf_string Tryz.underlying9] at h
 unfold mapKey at h
 rw[Tryz.underlying9] at h
 cases key<;>simp at h
 exact ⟨_,rfl,h.2.symm⟩
structure zSH where
 dir:Bool
 data:ByteArray
theorem zL7 {v:Value} {y:DataW Unit×List MemPlace} (h:zBo v=some y):∃ c:zSH,v=.agg #[.bool c.dir,.string c.data]:=by
 unfold zBo at h
 split at h
 ·rename_i cs
  split at h
  ·rename_i d s hc
   exact ⟨⟨d,s⟩,by congr 1;exact Array.ext' hc⟩
  ·cases h
 ·cases h
def LoadP (l:List File) (w:World) (e:Ending) (w':World):Prop:=
 (loadB l=false∧e=.returned (.tuple #[.pointer none,.int .i64 1])) ∨
 (loadB l=true∧∃ d B rv zv,e=.returned (.tuple #[.pointer (some ⟨d,0,none⟩),.int .i64 0])∧w'.heap[d]?=some (.cells #[.map (some B),rv,zv] 115 (0,0))∧zAq w' B l)
theorem zD1 (A:Option Addr) (n c:Nat) (l:List File) (w:World) (S:Nat→Prop) (hm:MaxL w) (hl:SlV rFile w S l (.slice A n c)) (hn9:n≤2000000) (hps:∀ f∈l,f.path.size≤67108864) :
  Calls Tryz.prog 17 #[.slice A n c] w fun e w'=>LoadP l w e w'∧Below w.heap.size w w':=by
 have hn:=hl.n_eq
 have hcm:=hl.cap_le
 unfold maxLen at hcm
 have Hn:=cH hn
 have HL:=cH hl
 have Hps:=cH hps
 obtain ⟨B,hB⟩:∃ B,B=w.heap.size:=⟨_,rfl⟩
 have HBs:=cH hB
 have hN:=zLh w
 rw[←hB] at hN
 have HN:=cH hN
 clear hN
 have Hm:=cH hm
 have Hno:Hid (∀ (e:Ending) (w':World),loadB l=false→e=.returned (.tuple #[.pointer none,.int .i64 1])→LoadP l w e w'):=fun e w' h1 h2=>.inl ⟨h1,h2⟩
 clear hn hl hps hm
 go_enter Tryz.func17,Tryz.ntmps17
 go_wp2_with fail
 refine HN.out.mono ?_
 rintro e w1 ⟨rfl,hw1⟩
 have HT1:Hid (zAq w1 B []):=by rw[hw1,hB];exact (zAq.made w).keep ((bR _ _).alloc (nR _) _)
 have HD1:Hid (w1.heap[B+1]?=some (.cells #[.map (some B),.slice none 0 0,.int .i64 (-1)] 115 (0,0))):=by unfold Hid;rw[hw1,hB,show w.heap.size+1=(w.alloc (.map #[] 0)).heap.size from by simp];exact (Go.MapKept.heap_alloc (w.alloc (.map #[] 0)) _).1
 have HB1:Hid (Below w.heap.size w w1):=by unfold Hid;rw[hw1];exact bal (bal (bR _ _) _) _
 have hz1:B+1<w1.heap.size:=by rw[hw1,hB];simp
 have Hst:Hid (loadB l=(goodL (l.take 0) (l.drop 0)&&zGK l)):=rfl
 clear hw1 HN hB
 go_wp2_with fail
 go_loopw [13] (fun i wr=>∃ k:Nat,k≤n∧i=.int .i64 k∧Hid (loadB l=(goodL (l.take k) (l.drop k)&&zGK l))∧Hid (zAq wr B (l.take k))∧Hid (wr.heap[B+1]?=some (.cells #[.map (some B),.slice none 0 0,.int .i64 (-1)] 115 (0,0)))∧Hid (Below w.heap.size w wr)∧B+1<wr.heap.size) (fun i _=>n - (intOf i).toNat)
 case atStart=>exact ⟨0,nZ _,rfl,Hst,HT1,HD1,HB1,hz1⟩
 case round=>
  clear Hst HT1 HD1 HB1 hz1
  obtain ⟨k,hk,rfl,Hg,HT,HD,HB,hzr⟩:=hrel
  have d0:wr.cell? ⟨B+1,0,none⟩=some (.map (some B)):=cO wr (B+1) 0 _ _ _ HD.out
  by_cases hlt:k<n
  case neg=>
   obtain rfl:k=n:=by omega
   have hI:¬(k:Int)<(k:Int):=by omega
   have hke:l.take k=l:=List.take_of_length_le (by rw[←Hn.out];exact nR _)
   have hg1:loadB l=zGK l:=by rw[Hg.out,zOA (by rw[←Hn.out];exact nR _),Bool.true_and]
   have Hg1:=cH hg1
   have hT:=HT.out
   rw[hke] at hT
   obtain ⟨m,D,hown,hml,hmap,hD⟩:=hT
   have Hown:=cH hown
   have HTW:Hid (∀ W,W.ownsMap Tryz.prog 9 zBo B m D→zAq W B l):=fun W hW=>⟨m,D,hW,hml,hmap,hD⟩
   have Hin:Hid (∀ p:ByteArray,has D (.string p.data.toList)=true↔p∈zAm l):=fun p=>by
    rw[(hD p).1]
    constructor
    ·intro h
     refine Classical.byContradiction fun hn=>?_
     rw[zCU.2 hn] at h
     cases h
    ·intro h
     cases hh:(zAK l p).isSome with
     | true=>rfl
     | false=>exact absurd h (zCU.1 hh)
   obtain ⟨wo,rfl⟩:∃ wo:World,wo=wr:=⟨_,rfl⟩
   clear hke hg1 hown hml hmap hD Hg HT Hn
   go_wp2_with (first
    | (at_range;refine wpList_range_own _ rfl _ 113 rfl 9 111 zB4 Tryz.underlying113 _ B m D rfl Hown.out ?_;intro w0 hrg0 hg0 hs0)
    | go_in)
   have HB0:Hid (Below wo.heap.size wo w0):=⟨hg0.os,hg0.tape,hg0.output,hg0.size,fun i hi=>hg0.block i hi (by simp)⟩
   have Hrg0:=cH hrg0
   clear hrg0 hg0 hs0
   go_loopw [9] (fun _ wq=>∃ (left:Lit→Bool) (cnt:Nat),Hid (wq.ranges Tryz.prog 9 zBo B wo.heap.size m D left cnt)∧Hid (∀ kl,left kl=true→has D kl=true)∧Hid (∀ p:ByteArray,p∈zAm l→left (.string p.data.toList)=true∨kindF l (upS p)=2)∧Hid (Below wo.heap.size wo wq)) (fun _ wq=>wq.rangeLeft B wo.heap.size)
   case atStart=>exact ⟨_,_,Hrg0,fun kl h=>h,fun p hp=>.inl ((Hin.out p).2 hp),HB0⟩
   case round=>
    clear Hrg0 HB0
    obtain ⟨left,cnt,Hrg,Hlh,Hlk,HBq⟩:=hrel
    have HDq:Hid (wr.heap[B+1]?=some (.cells #[.map (some B),.slice none 0 0,.int .i64 (-1)] 115 (0,0))):=(HBq.out.block _ hzr).trans HD.out
    go_wp2_with (first
     | (at_next;refine wpList_next_ranges _ rfl _ rfl 9 zB4 zBo (fun x:ByteArray=>Value.string x) (fun c:zSH=>Value.agg #[.bool c.dir,.string c.data]) (fun key kl h=>(zIZ h).imp fun x hx=>hx.1) (fun v y h=>zL7 h) B wo.heap.size m D left cnt rfl Hrg.out ?_ ?_)
     | go_in)
    ·intro hc0 hl0
     have hr:loadB l=true:=by
      rw[Hg1.out]
      refine zNU fun p hp=>?_
      rcases Hlk.out p hp with h|h
      ·rw[hl0] at h;cases h
      ·exact h
     have hpost:LoadP l w (.returned (.tuple #[.pointer (some ⟨B+1,0,none⟩),.int .i64 0])) wr:=.inr ⟨hr,B+1,B,_,_,rfl,HDq.out,HTW.out _ Hrg.out.owns⟩
     have Hpost:=cH hpost
     clear hr hpost
     go_wp2_with fail
     go_ret2
     exact ⟨Hpost.out,bot HB.out HBq.out⟩
    ·intro x cc kl ya yb w1 cnt1 hkey hlx hvx hat hrg1 hlt1 hg1 hs1 hen
     obtain ⟨x',ex,rfl⟩:=zIZ hkey
     cases ex
     have hxm:x∈zAm l:=(Hin.out x).1 (Hlh.out _ hlx)
     have hxs:x.size≤67108864:=by
      obtain ⟨f,hf,rfl⟩:=List.mem_map.1 hxm
      exact Hps.out f hf
     have HB1:Hid (Below wo.heap.size wo w1):=HBq.out.grown hg1 HBq.out.size (fun g hg=>by have:=Option.some.inj hg;omega)
     have HD1:Hid (w1.heap[B+1]?=some (.cells #[.map (some B),.slice none 0 0,.int .i64 (-1)] 115 (0,0))):=(HB1.out.block _ hzr).trans HD.out
     have HP:=cH (fun W=>zHv x (by omega) W)
     have HK:=cH (zKQ (B+1) B (.slice none 0 0) (.int .i64 (-1)) l (upS x) w1 (by have:=zSj x;unfold maxLen;omega) (cO w1 (B+1) 0 _ _ _ HD1.out) (HTW.out _ hrg1.owns))
     have Hlt:=cH hlt1
     have Hrg1:=cH hrg1
     clear hlt1 hrg1 hg1 hs1 hkey hvx hat
     go_wp2_with fail
     refine (HP.out _).mono ?_
     rintro e w5 ⟨rfl,rfl⟩
     go_wp2_with fail
     refine HK.out.mono ?_
     rintro e w6 ⟨rfl,hb6⟩
     have HB6:=cH (bot HB1.out hb6)
     have Hrg6:Hid (w6.ranges Tryz.prog 9 zBo B wo.heap.size m D (fun z=>left z&&!z.sameKey (.string x.data.toList)) cnt1):=Hrg1.out.kept (row:=none) ⟨hb6.os,hb6.tape,hb6.output,hb6.size,fun q hq _=>hb6.block q hq⟩ (by simp) (by simp)
     clear hb6 HK HP hen
     by_cases hkd:kindF l (upS x)=2
     ·have hkb:(kindF l (upS x)==2)=true:=by simp[hkd]
      have Hlh6:Hid (∀ kl,(left kl&&!kl.sameKey (.string x.data.toList))=true→has D kl=true):=fun kl h=>Hlh.out kl (by rw[Bool.and_eq_true] at h;exact h.1)
      have Hlk6:Hid (∀ p:ByteArray,p∈zAm l→(left (.string p.data.toList)&&!(Lit.string p.data.toList).sameKey (.string x.data.toList))=true∨kindF l (upS p)=2):=fun p hp=>by
       by_cases e:p=x
       ·exact .inr (by rw[e];exact hkd)
       ·rcases Hlk.out p hp with h|h
        ·refine .inl ?_
         rw[h,Maps.sameKey_ne (fun he=>e (zAt (by simpa using he)))]
         rfl
        ·exact .inr h
      have Hme:Hid (w6.rangeLeft B wo.heap.size<wr.rangeLeft B wo.heap.size):=by unfold Hid;rw[Hrg6.out.left_eq,Hrg.out.left_eq];exact Hlt.out
      rw[hkd] at *
      clear hkd Hlh Hlk Hrg Hlt hlx
      go_wp2_with fail
      go_roundw
      case rel=>exact ⟨_,cnt1,Hrg6,Hlh6,Hlk6,HB6⟩
      case measure=>exact Hme.out
     ·have hkb:(kindF l (upS x)==2)=false:=by simpa using hkd
      have Hr:Hid (loadB l=false):=Hg1.out.trans (zQm hxm hkd)
      clear hkd Hlh Hlk Hrg Hlt hlx
      go_wp2_with fail
      go_ret2
      exact ⟨Hno.out _ _ Hr.out rfl,bot HB.out HB6.out⟩
  have hkI:(k:Int)<(n:Int):=by omega
  have hk0:(0:Int)≤(k:Int):=by omega
  have hkl:k<l.length:=by rw[←Hn.out];exact hlt
  obtain ⟨x,hx⟩:∃ x,l[k]?=some x:=⟨_,gE hkl⟩
  have Hstep:=cH (zNa hx)
  have Htk:Hid (l.take (k+1)=l.take k++[x]):=by unfold Hid;rw[List.take_add_one,hx];rfl
  have hxm:x∈l:=mG hx
  have hxp:=Hps.out x hxm
  obtain ⟨b,o,cs,hA,_,_,⟨hcs,_,_⟩,hcell⟩:=(HL.out.belowSize HB.out).elem hx
  subst hA
  have c0:=hcell 0 _ (by rw[hcs];rfl)
  have c1:=hcell 1 _ (by rw[hcs];rfl)
  have c2:=hcell 2 _ (by rw[hcs];rfl)
  rw[show o+k * rFile.size+0=o+k * 3 from rfl] at c0
  rw[show o+k * rFile.size+1=o+k * 3+1 from rfl] at c1
  rw[show o+k * rFile.size+2=o+k * 3+2 from rfl] at c2
  clear hcell hcs hx
  obtain ⟨w4,hw4⟩:∃ w4,w4=wr.alloc (.cells #[.string x.path,.bool x.dir,.string x.data] 45):=⟨_,rfl⟩
  have HB4:Hid (Below wr.heap.size wr w4):=by unfold Hid;rw[hw4];exact bal (bR _ _) _
  have hlook:=(HT.out.keep HB4.out).look (p:=x.path) (by unfold maxLen;omega)
  rw[hw4] at hlook
  generalize hdd:dirAt (l.take k) x.path=dd at *
  generalize hda:zIl (l.take k) x.path=da at *
  generalize hzt:(zAK (l.take k) x.path).isSome=zt at *
  have HT4:=cH (HT.out.keep HB4.out)
  rw[hw4] at HT4
  have Hlk:Hid (∀ W,zAq W B (l.take k)→(Instr.lookup 113 (.map (some B)) (.string x.path) true).run Tryz.prog W=.ok (.tuple #[.agg #[.bool dd,.string da],.bool zt]) W):=fun W hW=>by
   have:=hW.look (p:=x.path) (by unfold maxLen;omega)
   rwa [hdd,hda,hzt] at this
  clear hdd hda
  have Hs:Hid (∀ W,Below w4.heap.size w4 W→W.cell? ⟨B+1,0,none⟩=some (.map (some B))∧W.cell? ⟨wr.heap.size,0,none⟩=some (.string x.path)∧zAq W B (l.take k)∧(Instr.lookup 113 (.map (some B)) (.string x.path) true).run Tryz.prog W=.ok (.tuple #[.agg #[.bool dd,.string da],.bool zt]) W):=fun W hW=>by
   have e0:w4.cell? ⟨B+1,0,none⟩=some (.map (some B)):=by rw[hw4];exact (zAI (Below.heap_alloc wr _ _ (zAE d0)) _ none).trans d0
   have e1:w4.cell? ⟨wr.heap.size,0,none⟩=some (.string x.path):=by rw[hw4];simp[go_sem]
   have hT:zAq W B (l.take k):=by have:=HT4.out;rw[←hw4] at this;exact this.keep hW
   exact ⟨zAA hW e0 (zAE e0),zAA hW e1 (zAE e1),hT,Hlk.out W hT⟩
  rw[hw4] at Hs
  go_wp2_with fail
  go_region_held3 (fun w'=>w'.cell? ⟨B+1,0,none⟩=some (.map (some B))∧w'.cell? ⟨wr.heap.size,0,none⟩=some (.string x.path)∧zAq w' B (l.take k)∧(Instr.lookup 113 (.map (some B)) (.string x.path) true).run Tryz.prog w'=.ok (.tuple #[.agg #[.bool dd,.string da],.bool zt]) w')
   (first|exact Hs.out _ (bR _ _).drew|exact Hs.out _ (bal (bR _ _) _).drew|exact Hs.out _ (bal (bR _ _).drew _)|exact Hs.out _ ((bal (bR _ _) _).drew.setCell (by simp) _)|go_keep)
   (fail)
  all_goals
   obtain ⟨w5,hw5⟩:∃ w5,w5=((wr.alloc (.cells #[.string x.path,.bool x.dir,.string x.data] 45)).alloc (.cells #[.bool dd,.string da] 111)).drew:=⟨_,rfl⟩
   have HB5:Hid (Below wr.heap.size wr w5):=by unfold Hid;rw[hw5];exact (bal (bal (bR _ _) _) _).drew
   have HF5:Hid (w5.heap[wr.heap.size]?=some (.cells #[.string x.path,.bool x.dir,.string x.data] 45 (0,0))):=by
    unfold Hid
    rw[hw5]
    exact (Go.MapKept.heap_alloc (wr.alloc (.cells #[.string x.path,.bool x.dir,.string x.data] 45)) _).2 wr.heap.size (by simp) |>.trans (Go.MapKept.heap_alloc wr _).1
   rw[←hw5]
   have hs5:wr.heap.size<w5.heap.size:=by rw[hw5];simp;omega
   have f0:w5.cell? ⟨wr.heap.size,0,none⟩=some (.string x.path):=cO w5 _ 0 _ _ _ HF5.out
   have f1:w5.cell? ⟨wr.heap.size,1,none⟩=some (.bool x.dir):=cO w5 _ 1 _ _ _ HF5.out
   have f2:w5.cell? ⟨wr.heap.size,2,none⟩=some (.string x.data):=cO w5 _ 2 _ _ _ HF5.out
   have HBe:=cH (zJn x.path hxp w5 ((Hm.out).below (bot HB.out HB5.out)))
   clear hw5 hw4 HB4 hlook HT4 Hs Hlk
   cases zt with
   | true=>
     have ho:=zPs hzt
     have Hr:Hid (loadB l=false):=by unfold Hid;rw[Hg.out,Hstep.out,ho];rfl
     clear ho Hg Hstep
     go_wp2_with fail
     go_ret2
     exact ⟨Hno.out _ _ Hr.out rfl,bot HB.out HB5.out⟩
   | false=>
   go_wp2_with fail
   refine HBe.out.mono ?_
   rintro e w6 ⟨rfl,hb6⟩
   have HB6:=cH (bot HB5.out hb6)
   have g0:=zAA hb6 f0 hs5
   have g1:=zAA hb6 f1 hs5
   have g2:=zAA hb6 f2 hs5
   have e0:w6.cell? ⟨B+1,0,none⟩=some (.map (some B)):=zAA HB6.out d0 hzr
   have HT6:=cH (HT.out.keep HB6.out)
   clear hb6 HBe f0 f1 f2 hs5 HF5 HB5 c0 c1 c2 d0
   cases hpb:zAZ x.path with
   | false=>
     have ho:=zRe (pre:=l.take k) hpb
     have Hr:Hid (loadB l=false):=by unfold Hid;rw[Hg.out,Hstep.out,ho];rfl
     clear ho Hg Hstep
     go_wp2_with fail
     go_ret2
     exact ⟨Hno.out _ _ Hr.out rfl,bot HB.out HB6.out⟩
   | true=>
   cases hdir:x.dir with
   | false=>
     have ho:=zM8 hzt hpb hdir
     rw[hdir] at g1
     have Hnx:Hid (loadB l=(goodL (l.take (k+1)) (l.drop (k+1))&&zGK l)):=by unfold Hid;rw[Hg.out,Hstep.out,ho,Bool.true_and]
     clear ho Hg Hstep
     have r_e0:=cR e0
     have r_g0:=cR g0
     have r_g1:=cR g1
     have r_g2:=cR g2
     go_wp2_with fail
     refine zAk 11 (by kernel_rfl) (by kernel_rfl) ?_
     simp only[List.take_succ_cons,List.take_zero,List.drop_succ_cons,List.drop_zero]
     repeat (go_big_quiet_step (first|fail))
     refine wpQuiet_nil fun w7 B7=>?_
     have HB7:=cH (bot HB6.out B7)
     have hT7:zAq w7 B (l.take k):=HT6.out.keep B7
     obtain ⟨w8,hrun,hT8,hg8⟩:=zAq.put (x:=x) hT7 (by unfold maxLen;omega) (by rw[List.length_take];omega) (zHI hzt)
     rw[hdir] at hrun
     rw[←Htk.out] at hT8
     have HT8:=cH hT8
     have hB1:B+1<w7.heap.size:=by have:=HB6.out.size;have:=B7.size;omega
     have HD8:Hid (w8.heap[B+1]?=some (.cells #[.map (some B),.slice none 0 0,.int .i64 (-1)] 115 (0,0))):=(hg8.block (B+1) hB1 (fun e=>by have:=Option.some.inj e;omega)).trans ((HB7.out.block _ hzr).trans HD.out)
     have HB8:Hid (Below w.heap.size w w8):=(bot HB.out HB7.out).grown hg8 (by have:=HB.out.size;have:=HB7.out.size;omega) (fun g hg=>by have:=HBs.out;have:=Option.some.inj hg;omega)
     have hz8:B+1<w8.heap.size:=lL hB1 hg8.size
     clear hT7 hT8 hg8 HT HD HB HT6
     go_wp2_with fail
     go_roundw
     case rel=>exact ⟨k+1,by omega,by go_num,Hnx,HT8,HD8,HB8,hz8⟩
     case measure=>simp[intOf];omega
   | true=>
     rw[hdir] at g1
     cases hdat:(x.data.toList==[]) with
     | true=>
       have ho:=zP7 hzt hpb hdir hdat
       have Hnx:Hid (loadB l=(goodL (l.take (k+1)) (l.drop (k+1))&&zGK l)):=by unfold Hid;rw[Hg.out,Hstep.out,ho,Bool.true_and]
       clear ho Hg Hstep
       have r_e0:=cR e0
       have r_g0:=cR g0
       have r_g1:=cR g1
       have r_g2:=cR g2
       go_wp2_with fail
       refine zAk 11 (by kernel_rfl) (by kernel_rfl) ?_
       simp only[List.take_succ_cons,List.take_zero,List.drop_succ_cons,List.drop_zero]
       repeat (go_big_quiet_step (first|fail))
       refine wpQuiet_nil fun w7 B7=>?_
       have HB7:=cH (bot HB6.out B7)
       have hT7:zAq w7 B (l.take k):=HT6.out.keep B7
       obtain ⟨w8,hrun,hT8,hg8⟩:=zAq.put (x:=x) hT7 (by unfold maxLen;omega) (by rw[List.length_take];omega) (zHI hzt)
       rw[hdir] at hrun
       rw[←Htk.out] at hT8
       have HT8:=cH hT8
       have hB1:B+1<w7.heap.size:=by have:=HB6.out.size;have:=B7.size;omega
       have HD8:Hid (w8.heap[B+1]?=some (.cells #[.map (some B),.slice none 0 0,.int .i64 (-1)] 115 (0,0))):=(hg8.block (B+1) hB1 (fun e=>by have:=Option.some.inj e;omega)).trans ((HB7.out.block _ hzr).trans HD.out)
       have HB8:Hid (Below w.heap.size w w8):=(bot HB.out HB7.out).grown hg8 (by have:=HB.out.size;have:=HB7.out.size;omega) (fun g hg=>by have:=HBs.out;have:=Option.some.inj hg;omega)
       have hz8:B+1<w8.heap.size:=lL hB1 hg8.size
       clear hT7 hT8 hg8 HT HD HB HT6
       go_wp2_with fail
       go_roundw
       case rel=>exact ⟨k+1,by omega,by go_num,Hnx,HT8,HD8,HB8,hz8⟩
       case measure=>simp[intOf];omega
     | false=>
       have ho:=zRu (pre:=l.take k) hdir hdat
       have Hr:Hid (loadB l=false):=by unfold Hid;rw[Hg.out,Hstep.out,ho];rfl
       clear ho Hg Hstep
       go_wp2_with fail
       go_ret2
       exact ⟨Hno.out _ _ Hr.out rfl,bot HB.out HB6.out⟩
end Go.Proofs.YthbnmehbhpakaaaGreatDoor
namespace Go.Proofs.YthbnmehbhpakaaaGreatDoor
open Go.Rows Go.RowKit Go.Shelf Go.Sort
def dir00:Dir:=⟨[],zBz,0⟩
def zC1:Node:=⟨⟨#[]⟩,⟨0,0,0⟩,[],[]⟩
def proj0:Proj:=⟨man0,[zC1],[dir00],false⟩
theorem mani0:maniB man0=true:=by
 have h3:listB ([]:List Dep)=true:=by decide +kernel
 have h4:zCQ (zAM [[],[],[]])=true:=zDa (by simp[zAM,zAQ])
 have h5:(zAR man0).size≤4096:=by
  unfold zAR
  simp only[ByteArray.size_append]
  have e1:(zAN zBR man0.deps).size=0:=rfl
  have e2:(zAN devW man0.dev).size=0:=rfl
  have e3:(zAN zBi man0.opts).size=0:=rfl
  have e4:(zAN pinsW man0.over).size=0:=rfl
  have e5:zA5.size=7:=rfl
  have e6:nlB.size=1:=rfl
  omega
 unfold maniB
 show (listB ([]:List Dep)&&(listB ([]:List Dep)&&(listB ([]:List Dep)&&(listB ([]:List Dep)&&(zCQ (zAM [[],[],[]])&&decide ((zAR man0).size≤4096))))))=true
 rw[h3,h4,decide_eq_true h5];rfl
theorem lock0:lockB [zC1]=true:=by decide +kernel
theorem zS9:zAe [dir00]=0:=by
 have h0:rootB dir00=true:=by unfold rootB;rw[show dir00.pack=zBz from rfl,zAF rfl];rfl
 unfold zAe
 rw[if_neg (by simp)]
 simp only[okGo,h0]
 rfl
theorem map00:mapR [dir00] [zC1]=(some [0],0):=by
 unfold mapR
 rw[zS9,if_neg (by decide),show zBI [zC1]=true by decide +kernel,if_neg (by decide)]
 have e3:zAc [dir00] [zC1] 2 ([0],[0])=some [0]:=by
  rw[zGC]
  have e1:zAg [dir00] [zC1] 0 (zDB [zC1] (([0]:List Int).getD 0 0)) ([0],[])=some ([0],[]):=by
   show zAg [dir00] [zC1] 0 [] ([0],[])=_
   rw[zAg]
  rw[e1]
  show zAc [dir00] [zC1] 1 ([0],[])=_
  rw[zAc]
 have e4:zAc [dir00] [zC1] ([dir00].length+1) (map0 [dir00].length)=some [0]:=e3
 rw[e4]
theorem may0:mayI proj0=true:=by
 unfold mayI zCY
 rw[show proj0.man=man0 from rfl,show proj0.nodes=[zC1] from rfl,show proj0.dirs=[dir00] from rfl,mani0,lock0,map00]
 rfl
theorem zPh:imgF proj0=([],0):=by
 have he:zBn proj0=true:=by
  unfold zBn
  rw[show proj0.man=man0 from rfl,zAF rfl]
  rfl
 unfold imgF
 rw[if_pos may0,if_pos he]
theorem zSS:ProjZ proj0:=by
 refine ⟨⟨by decide,?_⟩,by decide,?_⟩
 ·intro x hx
  rw[List.mem_singleton.1 hx]
  decide
 ·intro d hd
  rw[List.mem_singleton.1 hd]
  decide
theorem zMT (w:World) (S:Nat→Prop):rDir.holds w S dir00 [.slice none 0 0,.string ⟨#[]⟩,.int .i64 0,.int .i64 0,.int .i64 0,.slice none 0 0,.slice none 0 0,.slice none 0 0,.int .i64 0]:=
 ⟨.slice none 0 0,.slice none 0 0,.slice none 0 0,.slice none 0 0,rfl,SlV.nil_ _ _ _,nZ _,by unfold I64;decide,by unfold I64;decide,by unfold I64;decide,SlV.nil_ _ _ _,SlV.nil_ _ _ _,SlV.nil_ _ _ _,by unfold I64;decide⟩
theorem zLJ (w:World) (S:Nat→Prop):rNode.holds w S zC1 [.string ⟨#[]⟩,.int .i64 0,.int .i64 0,.int .i64 0,.slice none 0 0,.slice none 0 0]:=
 ⟨.slice none 0 0,.slice none 0 0,rfl,nZ _,by unfold I64;decide,by unfold I64;decide,by unfold I64;decide,SlV.nil_ _ _ _,SlV.nil_ _ _ _⟩
theorem zBX (w:World) (o:Obj):(w.alloc o).heap.size=w.heap.size+1:=by simp[go_sem]
theorem zGI (w:World):Calls Tryz.prog 37 #[] w fun e w'=>(∃ A5 A6,e=.returned (.agg #[.slice none 0 0,.slice none 0 0,.slice none 0 0,.slice none 0 0,.slice (some A5) 1 1,.slice (some A6) 1 1,.bool false]) ∧
  ProjV w' (fun b=>w.heap.size≤b) proj0 (.agg #[.slice none 0 0,.slice none 0 0,.slice none 0 0,.slice none 0 0,.slice (some A5) 1 1,.slice (some A6) 1 1,.bool false]))∧Below w.heap.size w w':=by
 go_enter Tryz.func37,Tryz.ntmps37
 go_wp2_with fail
 have H0:∀ (o o':Obj) (x:Obj),(((w.alloc x).alloc o).alloc o').heap[w.heap.size]?=(w.alloc x).heap[w.heap.size]?:=fun o o' x=>(Below.heap_alloc _ _ _ (by simp[zBX];omega)).trans (Below.heap_alloc _ _ _ (by simp[zBX]))
 have H1:∀ (o o':Obj) (x:Obj),(((w.alloc x).alloc o).alloc o').heap[w.heap.size+1]?=((w.alloc x).alloc o).heap[(w.alloc x).heap.size]?:=fun o o' x=>by
  rw[zBX]
  exact Below.heap_alloc _ _ _ (by simp[zBX])
 have H2:∀ (o o':Obj) (x:Obj),(((w.alloc x).alloc o).alloc o').heap[w.heap.size+1+1]?=(((w.alloc x).alloc o).alloc o').heap[((w.alloc x).alloc o).heap.size]?:=fun o o' x=>by
  rw[zBX,zBX]
 refine bodyPost_ret (results_cell_row rfl _ _ w.heap.size 32 _ (0,0) _ rfl ((H0 _ _ _).trans (zAT w _)) Tryz.underlying32 rfl (by kernel_rfl)) rfl ⟨⟨_,_,rfl,?_⟩,bal (bal (bal (bR _ _) _) _) _⟩
 refine ⟨none,0,0,none,0,0,none,0,0,none,0,0,_,1,1,_,1,1,rfl,SlV.nil_ _ _ _,SlV.nil_ _ _ _,SlV.nil_ _ _ _,SlV.nil_ _ _ _,?_,?_⟩
 ·exact SlV.of_block (l:=[zC1]) ((H1 _ _ _).trans (zAT _ _)) (Elems.one_ (r:=rNode) (x:=zC1) (cs:=[.string ⟨#[]⟩,.int .i64 0,.int .i64 0,.int .i64 0,.slice none 0 0,.slice none 0 0]) (zLJ _ _)) (Nat.le_succ w.heap.size) rfl (by decide) (by decide)
 ·exact SlV.of_block (l:=[dir00]) ((H2 _ _ _).trans (zAT _ _)) (Elems.one_ (r:=rDir) (x:=dir00) (cs:=[.slice none 0 0,.string ⟨#[]⟩,.int .i64 0,.int .i64 0,.int .i64 0,.slice none 0 0,.slice none 0 0,.slice none 0 0,.int .i64 0]) (zMT _ _)) (Nat.le_succ_of_le (Nat.le_succ w.heap.size)) rfl (by decide) (by decide)
theorem ProjV.wide {w:World} {S T:Nat→Prop} {x:Proj} {v:Value} (h:ProjV w S x v) (hk:∀ b,S b→b<w.heap.size→T b):ProjV w T x v:=by
 obtain ⟨A0,n0,c0,A1,n1,c1,A2,n2,c2,A3,n3,c3,A4,n4,c4,A5,n5,c5,e,g0,g1,g2,g3,g4,g5⟩:=h
 exact ⟨A0,n0,c0,A1,n1,c1,A2,n2,c2,A3,n3,c3,A4,n4,c4,A5,n5,c5,e,g0.more hk,g1.more hk,g2.more hk,g3.more hk,g4.more hk,g5.more hk⟩
theorem zF9 (w:World):Calls Tryz.prog 37 #[] w fun e w'=>(∃ A5 A6,e=.returned (.agg #[.slice none 0 0,.slice none 0 0,.slice none 0 0,.slice none 0 0,.slice (some A5) 1 1,.slice (some A6) 1 1,.bool false]) ∧
  ProjV w' (fun _=>True) proj0 (.agg #[.slice none 0 0,.slice none 0 0,.slice none 0 0,.slice none 0 0,.slice (some A5) 1 1,.slice (some A6) 1 1,.bool false]))∧Below w.heap.size w w':=
 (zGI w).mono fun e w' ⟨⟨A5,A6,h1,h2⟩,h3⟩=>⟨⟨A5,A6,h1,h2.wide fun _ _ _=>trivial⟩,h3⟩
