/- May of a list of spans: the program's and the document's, walked. -/
import Derived.Test.YthbnmehbhpakaaaGreatDoorBk02
import Derived.Lib.Join
import Derived.Test.YthbnmehbhpakaaaGreatDoorRows
import Derived.Test.YthbnmehbhpakaaaGreatDoorBk01
import Derived.WalkKit
import Derived.WalkSpells
import Derived.WalkLawsBesides
import Derived.IntWalk
import Derived.Lib.Hide
import Derived.Test.YthbnmehbhpakaaaGreatDoorBk04
import Derived.Test.YthbnmehbhpakaaaGreatDoorBk03
import Derived.Maps.Own
import Derived.Maps.OwnOps
import Derived.Maps.Views
import Derived.StringKeys
import Derived.Lib.Builder
import Derived.Lib.AppendStr
import Derived.Lib.Strings
import Derived.Lib.UnsafeStr
import Derived.Shelf.Strings.BuilderX
import Derived.Laws.Externs
import Derived.Test.YthbnmehbhpakaaaGreatDoorAl
set_option linter.all false
set_option maxHeartbeats 2000000
set_option maxRecDepth 100000
namespace Go.Proofs.YthbnmehbhpakaaaGreatDoor
open Go.Rows Go.RowKit Go.Shelf Go.Sort
theorem zQW {le:Int} {l:List Spn} {k:Nat} (h:k<l.length):zCb le (l.drop k) =
  ((verB l[k].lo.major l[k].lo.minor l[k].lo.patch&&verB l[k].hi.major l[k].hi.minor l[k].hi.patch&&decide (le≤rankR l[k].lo.major l[k].lo.minor l[k].lo.patch) &&
    decide (rankR l[k].lo.major l[k].lo.minor l[k].lo.patch≤rankR l[k].hi.major l[k].hi.minor l[k].hi.patch))&&zCb (rankR l[k].hi.major l[k].hi.minor l[k].hi.patch+2) (l.drop (k+1))):=by
 rw[dC h];rfl
theorem zNi {l:List Spn} (h:¬l.length≤64):zAp l=false:=by simp[zAp,h]
theorem zKq {l:List Spn} (h:l.length≤64):zAp l=zCb 0 l:=by simp[zAp,h]
theorem zEy (A:Option Addr) (n c:Nat) (l:List Spn) (w:World) (S:Nat→Prop) (hl:SlV rSpn w S l (.slice A n c)) :
  Calls Tryz.prog 188 #[.slice A n c] w fun e w'=>e=.returned (.bool (zAp l))∧Below w.heap.size w w':=by
 have hnx:=hl.n_eq
 by_cases h64:n≤64
 ·have Hs:Hid (zAp l=zCb 0 l):=zKq (by omega)
  have hl':=hl.more (S':=fun b=>b<w.heap.size) fun b _ hlt=>hlt
  have Hnx:=cH hnx;clear hnx
  clear hl
  generalize zAp l=r at *
  go_enter Tryz.func188,Tryz.ntmps188
  go_wp2_with fail
  go_loopw [3,15] (fun t i wr=>∃ (k:Nat) (le:Int),k≤n∧i=.int .i64 k∧t=.int .i64 le∧(0≤le∧le≤1000000001)∧Hid (zCb 0 l=zCb le (l.drop k))∧Below w.heap.size w wr) (fun _ i _=>n - (intOf i).toNat)
  case atStart=>exact ⟨0,0,nZ _,rfl,rfl,by omega,by simp[Hid],bR _ _⟩
  case round=>
   obtain ⟨k,le,hk,rfl,rfl,⟨hle0,hle1⟩,hgo,hbel⟩:=hrel
   by_cases hlt:k<n
   ·have hkx:k<l.length:=by have:=Hnx.out;omega
    have hlw:=hl'.below hbel (fun b hb=>hb)
    obtain ⟨b,o,cs,rfl,hSb,hbl,hsp,hcell⟩:=hlw.elem (gE hkx)
    obtain ⟨rfl,_,_,_,_,_,_⟩:=hsp
    have c0:=hcell 0 _ rfl
    have c1:=hcell 1 _ rfl
    have c2:=hcell 2 _ rfl
    have c3:=hcell 3 _ rfl
    have c4:=hcell 4 _ rfl
    have c5:=hcell 5 _ rfl
    simp only[rSpn,Nat.add_zero,Nat.mul_one] at c0 c1 c2 c3 c4 c5
    clear hcell
    have Hgo:=cH (zQW (le:=le) hkx)
    clear hlw
    have hkn:(k:Int)<(n:Int):=by omega
    generalize l[k]=s at *
    obtain ⟨⟨x1,x2,x3⟩,⟨x4,x5,x6⟩⟩:=s
    simp only at c0 c1 c2 c3 c4 c5
    have H1:=cH (fun W=>zCO x1 x2 x3 W)
    have H2:=cH (fun W=>zCO x4 x5 x6 W)
    obtain ⟨p1,p2⟩:=zBu x1 x2 x3
    obtain ⟨q1,q2⟩:=zBu x4 x5 x6
    generalize hr1:rankR x1 x2 x3=r1 at *
    generalize hr2:rankR x4 x5 x6=r2 at *
    generalize hv1:verB x1 x2 x3=v1 at *
    generalize hv2:verB x4 x5 x6=v2 at *
    have Hgo':Hid (zCb le (l.drop k)=((v1&&v2&&decide (le≤r1)&&decide (r1≤r2))&&zCb (r2+2) (l.drop (k+1)))):=by
     have:=Hgo.out;try simp only[hr1,hr2,hv1,hv2] at this
     exact this
    clear Hgo hr1 hr2 hv1 hv2
    go_wp2_with fail
    refine (H1.out _).mono ?_
    rintro e w1 ⟨rfl,hb1⟩
    have e3:=hb1.cell (p:=⟨wr.heap.size,3,none⟩) (by simp)
    have e4:=hb1.cell (p:=⟨wr.heap.size,4,none⟩) (by simp)
    have e5:=hb1.cell (p:=⟨wr.heap.size,5,none⟩) (by simp)
    simp[go_sem] at e3 e4 e5
    have B1:=bot hbel (bnew hb1)
    clear hb1 hbel
    go_wp2_with fail
    refine (H2.out _).mono ?_
    rintro e w2 ⟨rfl,hb2⟩
    have B2:=bot B1 hb2
    clear hb2 B1 e3 e4 e5 c0 c1 c2 c3 c4 c5
    have Hend:Hid ((v1&&v2&&decide (le≤r1)&&decide (r1≤r2))=false→r=false):=fun h=>by rw[Hs.out,hgo.out,Hgo'.out,h];rfl
    have Hon:Hid ((v1&&v2&&decide (le≤r1)&&decide (r1≤r2))=true→zCb 0 l=zCb (r2+2) (l.drop (k+1))):=fun h=>by rw[hgo.out,Hgo'.out,h,Bool.true_and]
    clear hgo Hgo'
    cases v1
    ·go_wp2_with fail
     go_ret
     exact ⟨zAB (Hend.out rfl).symm,B2⟩
    ·cases v2
     ·go_wp2_with fail
      go_ret
      exact ⟨zAB (Hend.out rfl).symm,B2⟩
     ·by_cases g1:r1<le
      ·have He:=cH (Hend.out (by simp;omega))
       go_wp2_with fail
       go_ret
       exact ⟨zAB He.out.symm,B2⟩
      ·by_cases g2:r2<r1
       ·have He:=cH (Hend.out (by simp;omega))
        go_wp2_with fail
        go_ret
        exact ⟨zAB He.out.symm,B2⟩
       ·have He:=cH (Hon.out (by simp;omega))
        go_wp2_with fail
        go_roundw
        case rel=>exact ⟨k+1,r2+2,by omega,by go_num,rfl,by omega,He,B2⟩
        case measure=>simp[intOf];omega
   ·have He:Hid (r=true):=by
     unfold Hid
     rw[Hs.out,hgo.out,dN (by have:=Hnx.out;omega)];rfl
    go_wp2_with fail
    go_ret
    exact ⟨zAB He.out.symm,hbel⟩
 ·have Hs:Hid (zAp l=false):=zNi (by omega)
  clear hnx hl
  generalize zAp l=r at *
  have h64':(64:Int)<(n:Int):=by omega
  go_enter Tryz.func188,Tryz.ntmps188
  go_wp2_with fail
  go_ret
  exact ⟨zAB Hs.out.symm,bR _ _⟩
end Go.Proofs.YthbnmehbhpakaaaGreatDoor
namespace Go.Proofs.YthbnmehbhpakaaaGreatDoor
open Go
def sepB:ByteArray:=⟨#[32,124,124,32]⟩
def starB:ByteArray:=⟨#[42]⟩
def leB:ByteArray:=⟨#[60,61]⟩
def geB:ByteArray:=⟨#[62,61]⟩
def andB:ByteArray:=⟨#[32,60,61]⟩
def noneB:ByteArray:=⟨#[60,48,46,48,46,48]⟩
def zAH:ByteArray:=⟨#[32]⟩
def Ver.text (v:Ver):ByteArray:=zAj v.major v.minor v.patch
def zAP (s:Spn):ByteArray:=
 if s.lo.rank=s.hi.rank then s.lo.text
 else if s.lo.rank=0 then (if s.hi.rank=999999999 then starB else leB++s.hi.text)
 else if s.hi.rank=999999999 then geB++s.lo.text
 else geB++s.lo.text++andB++s.hi.text
def joinB (l:List ByteArray):ByteArray:=⟨(Lib.join (l.map (·.data.toList)) sepB.data.toList).toArray⟩
def zAO (l:List Spn):ByteArray:=if zAp l then (if l=[] then noneB else joinB (l.map zAP)) else ⟨#[]⟩
theorem zBN (a b c:Int):(zAj a b c).size≤11:=by
 have key:∀ n:Int,0≤n→n≤999→(itoaB n).size≤3:=by
  intro n h0 h1
  have:n.toNat<1000:=by omega
  have e:itoaB n=⟨(Lib.decDigits n.toNat).toArray⟩:=by unfold itoaB Lib.itoa;rw[if_neg (by omega)]
  rw[e]
  show (Lib.decDigits n.toNat).toArray.size≤3
  simp only[List.size_toArray]
  have hd:∀ k:Fin 1000,(Lib.decDigits k.val).length≤3:=by decide +kernel
  exact hd ⟨n.toNat,this⟩
 unfold zAj
 cases h:verB a b c
 ·simp only[Bool.false_eq_true,if_false]
  show 0≤11;omega
 ·have h':=zA0.1 h
  have k1:=key a (by omega) (by omega)
  have k2:=key b (by omega) (by omega)
  have k3:=key c (by omega) (by omega)
  have z:dotB.size=1:=rfl
  simp only[if_true,ByteArray.size_append]
  omega
theorem zMB (s:Spn):(zAP s).size≤27:=by
 have h1:s.lo.text.size≤11:=zBN _ _ _
 have h2:s.hi.text.size≤11:=zBN _ _ _
 have z1:leB.size=2:=rfl
 have z2:geB.size=2:=rfl
 have z3:andB.size=3:=rfl
 have z4:starB.size=1:=rfl
 unfold zAP
 repeat' split
 all_goals (try simp only[ByteArray.size_append])
 all_goals omega
theorem zR4 (l:List ByteArray) (h:∀ s∈l,s.size≤27):(joinB l).size≤31 * l.length:=by
 have key:∀ l:List ByteArray,(∀ s∈l,s.size≤27)→(Lib.joinTail sepB.data.toList (l.map (·.data.toList))).length≤31 * l.length:=by
  intro l
  induction l with
  | nil=>intro _;exact nR _
  | cons s t ih=>
    intro h
    have h1:s.data.toList.length≤27:=by have:=h s (List.mem_cons_self ..);rw[Array.length_toList];exact this
    have h2:=ih (fun x hx=>h x (by simp[hx]))
    have z:sepB.data.toList.length=4:=rfl
    simp only[Lib.joinTail,List.map_cons,List.flatten_cons,List.length_append,List.length_cons] at *
    omega
 cases l with
 | nil=>exact nR _
 | cons s t=>
   unfold joinB
   rw[List.map_cons,Lib.join_cons]
   have h1:s.data.toList.length≤27:=by have:=h s (List.mem_cons_self ..);rw[Array.length_toList];exact this
   have h2:=key t (fun x hx=>h x (by simp[hx]))
   simp only[ByteArray.size,List.size_toArray,List.length_append,List.length_cons]
   omega
theorem zEn (l:List Spn):(joinB (l.map zAP)).size≤31 * l.length:=by
 have:=zR4 (l.map zAP) (fun s hs=>by
  obtain ⟨x,_,rfl⟩:=List.mem_map.1 hs
  exact zMB x)
 simpa using this
theorem zC6 (l:List Spn):(zAO l).size≤2000:=by
 unfold zAO
 cases h:zAp l
 ·simp only[Bool.false_eq_true,if_false]
  show 0≤2000;omega
 ·have hl:l.length≤64:=by simp[zAp] at h;exact h.1
  simp only[if_true]
  split
  ·show 6≤2000;omega
  ·have:=zEn l;omega
theorem zOb:∀ {l:List Spn} {le:Int},zCb le l=true→∀ s∈l,s.lo.ok=true∧s.hi.ok=true∧s.lo.rank≤s.hi.rank:=by
 intro l
 induction l with
 | nil=>intro le _ s hs;cases hs
 | cons x l ih=>
   intro le h s hs
   simp only[zCb,Bool.and_eq_true,decide_eq_true_eq] at h
   rcases List.mem_cons.1 hs with rfl|hs
   ·exact ⟨h.1.1.1.1,h.1.1.1.2,h.1.2⟩
   ·exact ih h.2 s hs
theorem zOC {l:List Spn} (h:zAp l=true):∀ s∈l,s.lo.ok=true∧s.hi.ok=true∧s.lo.rank≤s.hi.rank:=by
 simp only[zAp,Bool.and_eq_true] at h
 exact zOb h.2
theorem Ver.rank_ok {v:Ver} (h:v.ok=true):v.rank=rankI v.major v.minor v.patch:=by
 unfold Ver.rank rankR
 rw[if_pos (show verB v.major v.minor v.patch=true from h)]
end Go.Proofs.YthbnmehbhpakaaaGreatDoor
namespace Go.Proofs.YthbnmehbhpakaaaGreatDoor
open Go.Rows Go.RowKit Go.Shelf Go.Sort
def rRnk:Rp (Int×Int) where
 size:=2
 holds:=fun _ _ x cs=>cs=[.int .i64 x.1,.int .i64 x.2]∧I64 x.1∧I64 x.2
 len:=fun ⟨h,_⟩=>by rw[h];rfl
 one:=fun ⟨h,_⟩=>by rw[h];simp[Value.oneCell']
 mono:=fun h _=>h
theorem zGg:Elt Tryz.prog 211 2 16:=Elt.mk' (z:=.agg #[.int .i64 0,.int .i64 0]) (by kernel_rfl) rfl (by decide)
theorem zC3 {α:Type} {r:Rp α} {w W W':World} {e:TypeId} {v:Value} {l:List α} {S:Nat→Prop} (h:Below w.heap.size w W) (hg:W.grownBy W' v.ownBlock) {B:Nat} (hown:Own r W B e v l S) (hB:w.heap.size≤B):Below w.heap.size w W':=
 h.grown hg h.size (fun g' hg'=>nT hB (hown.lt g' hg').1)
theorem Own.slvB {α:Type} {r:Rp α} {w:World} {base:Nat} {e:TypeId} {v:Value} {l:List α} (h:Own r w base e v l (fun _=>False)):SlV r w (fun b=>base≤b) l v:=
 h.slv.more fun b hb _=>by rcases hb with h|h;exact h.elim;exact h
theorem zKS (A:Option Addr) (n c:Nat) (l:List Spn) (w:World) (S:Nat→Prop) (hmax:l.length≤1000000000) (hl:SlV rSpn w S l (.slice A n c)) :
  Calls Tryz.prog 190 #[.slice A n c] w fun e w'=>∃ v,e=.returned v∧Own rRnk w' w.heap.size 211 v (l.map fun s=>(s.lo.rank,s.hi.rank)) (fun _=>False)∧Below w.heap.size w w':=by
 have hnx:=hl.n_eq
 have hl':=hl.more (S':=fun b=>b<w.heap.size) fun b _ hlt=>hlt
 have hn63:n≤1000000000:=by omega
 have Hnx:=cH hnx;clear hnx
 clear hl
 go_enter Tryz.func190,Tryz.ntmps190
 go_wp2_with fail
 go_loopw [3,12] (fun v i wr=>∃ (k:Nat),k≤n∧i=.int .i64 k∧Hid (Own rRnk wr w.heap.size 211 v ((l.take k).map fun s=>(s.lo.rank,s.hi.rank)) (fun _=>False))∧Below w.heap.size w wr) (fun _ i _=>n - (intOf i).toNat)
 case atStart=>exact ⟨0,nZ _,rfl,Own.nil_ _ _ _ _ (fun b hb=>hb.elim),bR _ _⟩
 case round=>
  obtain ⟨k,hk,rfl,Hown,hbel⟩:=hrel
  by_cases hlt:k<n
  ·have hkx:k<l.length:=by have:=Hnx.out;omega
   have hlw:=hl'.below hbel (fun b hb=>hb)
   have hbw:=hbel.size
   obtain ⟨b,o,cs,rfl,hSb,hbl,hsp,hcell⟩:=hlw.elem (gE hkx)
   obtain ⟨rfl,_,_,_,_,_,_⟩:=hsp
   have c0:=hcell 0 _ rfl
   have c1:=hcell 1 _ rfl
   have c2:=hcell 2 _ rfl
   have c3:=hcell 3 _ rfl
   have c4:=hcell 4 _ rfl
   have c5:=hcell 5 _ rfl
   simp only[rSpn,Nat.add_zero,Nat.mul_one] at c0 c1 c2 c3 c4 c5
   clear hcell
   have Htk:Hid ((l.take (k+1)).map (fun s=>(s.lo.rank,s.hi.rank))=(l.take k).map (fun s=>(s.lo.rank,s.hi.rank))++[(l[k].lo.rank,l[k].hi.rank)]):=by
    unfold Hid;rw[List.take_succ_eq_append_getElem hkx,List.map_append];rfl
   have hlen:((l.take k).map fun s=>(s.lo.rank,s.hi.rank)).length=k:=by simp;omega
   clear hlw
   have hkn:(k:Int)<(n:Int):=by omega
   generalize l[k]=s at *
   obtain ⟨⟨x1,x2,x3⟩,⟨x4,x5,x6⟩⟩:=s
   simp only at c0 c1 c2 c3 c4 c5
   have H1:=cH (fun W=>zCO x1 x2 x3 W)
   have H2:=cH (fun W=>zCO x4 x5 x6 W)
   obtain ⟨p1,p2⟩:=zBu x1 x2 x3
   obtain ⟨q1,q2⟩:=zBu x4 x5 x6
   have Htk':Hid ((l.take (k+1)).map (fun s=>(s.lo.rank,s.hi.rank))=(l.take k).map (fun s=>(s.lo.rank,s.hi.rank))++[(rankR x1 x2 x3,rankR x4 x5 x6)]):=Htk.out
   clear Htk
   generalize (l.take k).map (fun s=>(s.lo.rank,s.hi.rank))=done at *
   generalize rankR x1 x2 x3=r1 at *
   generalize rankR x4 x5 x6=r2 at *
   generalize verB x1 x2 x3=v1 at *
   generalize verB x4 x5 x6=v2 at *
   have Hlen:=cH hlen;clear hlen
   go_wp2_with fail
   refine (H1.out _).mono ?_
   rintro e w1 ⟨rfl,hb1⟩
   have e3:=hb1.cell (p:=⟨wr.heap.size,3,none⟩) (by simp)
   have e4:=hb1.cell (p:=⟨wr.heap.size,4,none⟩) (by simp)
   have e5:=hb1.cell (p:=⟨wr.heap.size,5,none⟩) (by simp)
   simp[go_sem] at e3 e4 e5
   have Hb1:=cH (bnew hb1)
   clear hb1
   go_wp2_with fail
   refine (H2.out _).mono ?_
   rintro e w2 ⟨rfl,hb2⟩
   have Hb2:=cH (bot Hb1.out hb2)
   clear hb2 e3 e4 e5 c0 c1 c2 c3 c4 c5
   have HB:=cH (bot hbel Hb2.out)
   have Hown2:=cH (Hown.out.keep Hb2.out)
   have hw2:=HB.out.size
   go_wp2_with (at_builtin;refine zAb (by rfl) _ _ _ (by rfl) zGg Tryz.underlying206 (by rfl) (Hown2.out.alloc _) ⟨w2.heap.size,0,none⟩ 1 [.int .i64 r1,.int .i64 r2] (r1,r2) (by rfl) ⟨rfl,⟨by omega,by omega⟩,by omega,by omega⟩ (zAz w2 #[.int .i64 r1,.int .i64 r2] _) (by rw[Hlen.out];unfold maxLen;omega) (by rw[Hlen.out];omega) (by simp;omega) (w2.heap.size+1) (by simp) ?_)
   intro g cap w3 hown3 hgrow hat hg3
   have HB3:=cH (zC3 (bal HB.out _) hgrow (Hown2.out.alloc _) (nR _))
   have Hown3:=cH hown3
   clear hown3 hgrow
   go_wp2_with fail
   go_roundw
   case rel=>exact ⟨k+1,by omega,by go_num,by unfold Hid;rw[Htk'.out];exact Hown3.out,HB3.out⟩
   case measure=>simp[intOf];omega
  ·have hkn:k=l.length:=by have:=Hnx.out;omega
   have hs:=Hown.out
   rw[hkn,List.take_length] at hs
   clear hkn
   go_wp2_with fail
   go_ret
   exact ⟨_,rfl,hs,hbel⟩
theorem zLk (A:Option Addr) (n c:Nat) (l:List Spn) (w:World) (S:Nat→Prop) (hmax:l.length≤1000000000) (hl:SlV rSpn w S l (.slice A n c)) :
  Calls Tryz.prog 190 #[.slice A n c] w fun e w'=>∃ v,e=.returned v∧SlV rRnk w' (fun b=>w.heap.size≤b) (l.map fun s=>(s.lo.rank,s.hi.rank)) v∧Below w.heap.size w w':=
 (zKS A n c l w S hmax hl).mono fun e w' ⟨v,he,ho,hb⟩=>⟨v,he,ho.slvB,hb⟩
end Go.Proofs.YthbnmehbhpakaaaGreatDoor
namespace Go.Proofs.YthbnmehbhpakaaaGreatDoor
open Go.RowKit Go.Sort
def lessB (a b:ByteArray):Bool:=Op.bytesLess a.toList b.toList
end Go.Proofs.YthbnmehbhpakaaaGreatDoor
namespace Go.Proofs.YthbnmehbhpakaaaGreatDoor
open Go.Rows Go.RowKit Go.Shelf Go.Sort
def behind:Option ByteArray→ByteArray→Bool
 | none,_=>true
 | some a,b=>lessB a b
def zBL:Option ByteArray→List Dep→Bool
 | _,[]=>true
 | p,d::l=>(nameB d.name&&(zAp d.range&&(decide (d.range.length≠0)&&behind p d.name)))&&zBL (some d.name) l
def listB (l:List Dep):Bool:=zBL none l&&decide (l.length≤16)
def zBS (l:List Dep):Nat→Option ByteArray
 | 0=>none
 | q+1=>(l[q]?).map (·.name)
theorem zFg {l:List Dep} {q:Nat} (h:q<l.length):zBS l (q+1)=some l[q].name:=by simp[zBS,List.getElem?_eq_getElem h]
theorem zQK {l:List Dep} {k:Nat} (h:k<l.length):zBL (zBS l k) (l.drop k) =
  ((nameB l[k].name&&(zAp l[k].range&&(decide (l[k].range.length≠0)&&behind (zBS l k) l[k].name)))&&zBL (zBS l (k+1)) (l.drop (k+1))):=by
 rw[dC h,zFg h];rfl
theorem zJA (A:Option Addr) (n c:Nat) (l:List Dep) (w:World) (S:Nat→Prop) (hl:SlV rDep w S l (.slice A n c)) :
  Calls Tryz.prog 133 #[.slice A n c] w fun e w'=>e=.returned (.bool (listB l))∧Below w.heap.size w w':=by
 have hnx:=hl.n_eq
 have hcc:=hl.cap_le
 unfold maxLen at hcc
 have hn63:n≤9223372036854775807:=by omega
 have hl':=hl.more (S':=fun b=>b<w.heap.size) fun b _ hlt=>hlt
 have Hs:Hid (listB l=(zBL none l&&decide (n≤16))):=by unfold Hid listB;rw[hnx]
 have Hnx:=cH hnx;clear hnx
 clear hl hcc
 generalize listB l=r at *
 go_enter Tryz.func133,Tryz.ntmps133
 go_wp2_with fail
 go_loopw [7] (fun i wr=>∃ (k:Nat),k≤n∧i=.int .i64 k∧Hid (zBL none l=zBL (zBS l k) (l.drop k))∧Below w.heap.size w wr) (fun i _=>n - (intOf i).toNat)
 case atStart=>exact ⟨0,nZ _,rfl,by simp[Hid,zBS],bR _ _⟩
 case round=>
  obtain ⟨k,hk,rfl,hgo,hbel⟩:=hrel
  have hbw:=hbel.size
  by_cases hlt:k<n
  ·have hkx:k<l.length:=by have:=Hnx.out;omega
   have hlw:=hl'.below hbel (fun b hb=>hb)
   have hlw2:=cH hlw
   obtain ⟨b,o,cs,rfl,hSb,hbl,⟨s0,rfl,hnm,hrg⟩,hcell⟩:=hlw.elem (gE hkx)
   obtain ⟨pA,pc,rfl,hpc1,hpc2⟩:=hrg.val
   have c0:=hcell 0 _ rfl
   have c1:=hcell 1 _ rfl
   simp only[rDep,Nat.add_zero] at c0 c1
   clear hcell hlw
   have Hgo:=cH (zQK hkx)
   have hk0:(0:Int)≤(k:Int):=by omega
   have hkn:(k:Int)<(n:Int):=by omega
   have Hc1:Hid (∀ o:Obj,∀ d os,Calls Tryz.prog 61 #[.string l[k].name] (grow (redrawn (wr.alloc o) d) os) fun e w''=>e=.returned (.bool (nameB l[k].name))∧∃ p:Regrown,w''=grow (redrawn (wr.alloc o) p.d) p.os):=fun o=>qcall (w:=wr.alloc o) (fun W hW=>zA2 l[k].name hnm W)
   have Hc2:Hid (∀ o:Obj,∀ d os,Calls Tryz.prog 188 #[.slice pA l[k].range.length pc] (grow (redrawn (wr.alloc o) d) os) fun e w''=>e=.returned (.bool (zAp l[k].range))∧∃ p:Regrown,w''=grow (redrawn (wr.alloc o) p.d) p.os):=fun o=>qcall (w:=wr.alloc o) (fun W hW=>zEy _ _ _ l[k].range W _ ((hrg.alloc o).belowSize hW))
   generalize hnam:l[k].name=nm at *
   generalize hrl:l[k].range.length=rl at *
   generalize hsp:zAp l[k].range=v2 at *
   generalize hv1:nameB nm=v1 at *
   have Hgo':Hid (zBL (zBS l k) (l.drop k)=((v1&&(v2&&(decide (rl≠0)&&behind (zBS l k) nm)))&&zBL (zBS l (k+1)) (l.drop (k+1)))):=by
    have:=Hgo.out;try simp only[hnam,hrl,hsp,hv1] at this
    exact this
   clear Hgo hrl hsp hv1 hrg
   have Hnam:=cH hnam;clear hnam
   have Hend:Hid ((v1&&(v2&&(decide (rl≠0)&&behind (zBS l k) nm)))=false→r=false):=fun h=>by rw[Hs.out,hgo.out,Hgo'.out,h];rfl
   have Hon:Hid ((v1&&(v2&&(decide (rl≠0)&&behind (zBS l k) nm)))=true→zBL none l=zBL (zBS l (k+1)) (l.drop (k+1))):=fun h=>by rw[hgo.out,Hgo'.out,h,Bool.true_and]
   clear hgo Hgo'
   cases v1
   ·have He:=cH (Hend.out (rfl))
    clear Hend Hon
    go_wp2_with fail
    have a0:(wr.alloc (.cells #[.string nm,.slice pA rl pc] 158)).cell? ⟨wr.heap.size,0,none⟩=some (.string nm):=by simp[go_sem]
    have a1:(wr.alloc (.cells #[.string nm,.slice pA rl pc] 158)).cell? ⟨wr.heap.size,1,none⟩=some (.slice pA rl pc):=by simp[go_sem]
    have r_a0:=cR a0
    have r_a1:=cR a1
    refine wQ ?_
    repeat (go_big_quiet_step (first|(with_reducible exact Hc1.out _ _ _)|(with_reducible exact Hc2.out _ _ _)))
    refine wpQuiet_nil fun w1 B1=>?_
    go_wp2_with fail
    go_ret
    exact ⟨zAB He.out.symm,bot (bal hbel _) B1⟩
   ·cases v2
    ·have He:=cH (Hend.out (rfl))
     clear Hend Hon
     go_wp2_with fail
     have a0:(wr.alloc (.cells #[.string nm,.slice pA rl pc] 158)).cell? ⟨wr.heap.size,0,none⟩=some (.string nm):=by simp[go_sem]
     have a1:(wr.alloc (.cells #[.string nm,.slice pA rl pc] 158)).cell? ⟨wr.heap.size,1,none⟩=some (.slice pA rl pc):=by simp[go_sem]
     have r_a0:=cR a0
     have r_a1:=cR a1
     refine wQ ?_
     repeat (go_big_quiet_step (first|(with_reducible exact Hc1.out _ _ _)|(with_reducible exact Hc2.out _ _ _)))
     refine wpQuiet_nil fun w1 B1=>?_
     go_wp2_with fail
     go_ret
     exact ⟨zAB He.out.symm,bot (bal hbel _) B1⟩
    ·by_cases hz:rl=0
     ·have hzb:((rl:Int)==0)=true:=by simp[hz]
      have Hz0:=cH hz;clear hz
      have He:=cH (Hend.out (by simp[Hz0.out]))
      clear Hend Hon
      go_wp2_with fail
      have a0:(wr.alloc (.cells #[.string nm,.slice pA rl pc] 158)).cell? ⟨wr.heap.size,0,none⟩=some (.string nm):=by simp[go_sem]
      have a1:(wr.alloc (.cells #[.string nm,.slice pA rl pc] 158)).cell? ⟨wr.heap.size,1,none⟩=some (.slice pA rl pc):=by simp[go_sem]
      have r_a0:=cR a0
      have r_a1:=cR a1
      refine wQ ?_
      repeat (go_big_quiet_step (first|(with_reducible exact Hc1.out _ _ _)|(with_reducible exact Hc2.out _ _ _)))
      refine wpQuiet_nil fun w1 B1=>?_
      go_wp2_with fail
      go_ret
      exact ⟨zAB He.out.symm,bot (bal hbel _) B1⟩
     ·have hzb:((rl:Int)==0)=false:=by simp[hz]
      have hzd:decide (rl≠0)=true:=by simp[hz]
      have Hz:=cH hzd;clear hz hzd
      by_cases hk00:k=0
      ·have hkz:decide (0<k)=false:=by simp[hk00]
       have He:=cH (Hon.out (by rw[Hz.out,hk00];rfl))
       clear hk00
       clear Hend Hon
       go_wp2_with fail
       have a0:(wr.alloc (.cells #[.string nm,.slice pA rl pc] 158)).cell? ⟨wr.heap.size,0,none⟩=some (.string nm):=by simp[go_sem]
       have a1:(wr.alloc (.cells #[.string nm,.slice pA rl pc] 158)).cell? ⟨wr.heap.size,1,none⟩=some (.slice pA rl pc):=by simp[go_sem]
       have r_a0:=cR a0
       have r_a1:=cR a1
       refine wQ ?_
       repeat (go_big_quiet_step (first|(with_reducible exact Hc1.out _ _ _)|(with_reducible exact Hc2.out _ _ _)))
       refine wpQuiet_nil fun w1 B1=>?_
       go_wp2_with fail
       go_roundw
       case rel=>exact ⟨k+1,by omega,by go_num,He,bot (bal hbel _) B1⟩
       case measure=>simp[intOf];omega
      ·obtain ⟨q,rfl⟩:∃ q,k=q+1:=⟨k - 1,by omega⟩
       clear hk00
       have hqx:q<l.length:=by omega
       obtain ⟨b',o',cs',hA',_,hbl',⟨s1,rfl,hnm',hrg'⟩,hcell'⟩:=hlw2.out.elem (gE hqx)
       injection hA' with hA'
       injection hA' with hb' ho' _
       subst hb' ho'
       have e0:=hcell' 0 _ rfl
       simp only[rDep,Nat.add_zero] at e0
       have Hpq:=cH (zFg hqx)
       clear hcell' hlw2 hrg'
       generalize l[q].name=pn at *
       have hw1:IntKind.i64.wrap ((q:Int)+1 - 1)=(q:Int):=(IntWalk.i64_in _ ⟨by omega,by omega⟩).trans (by omega)
       have hw2:IntKind.i64.wrap (q:Int)=(q:Int):=IntWalk.i64_in _ ⟨by omega,by omega⟩
       have hq0:(0:Int)≤(q:Int):=by omega
       have hqn:(q:Int)<(n:Int):=by omega
       have hq1:(0:Int)<(q:Int)+1:=by omega
       have hq2:(q:Int)+1<(n:Int):=by omega
       have hq3:(0:Int)≤(q:Int)+1:=by omega
       have a2:(wr.alloc (.cells #[.string nm,.slice pA rl pc] 158)).cell? ⟨b,o+q * 2,none⟩=some (.string pn):=(zAI (Below.heap_alloc wr _ b hbl) _ _).trans e0
       have r_a2:=cR a2
       clear e0
       cases hls:Op.bytesLess pn.toList nm.toList
       ·have He:=cH (Hend.out (by rw[Hz.out,Hpq.out];simp only[behind,lessB];rw[hls];rfl))
        clear Hend Hon
        go_wp2_with fail
        have a0:(wr.alloc (.cells #[.string nm,.slice pA rl pc] 158)).cell? ⟨wr.heap.size,0,none⟩=some (.string nm):=by simp[go_sem]
        have a1:(wr.alloc (.cells #[.string nm,.slice pA rl pc] 158)).cell? ⟨wr.heap.size,1,none⟩=some (.slice pA rl pc):=by simp[go_sem]
        have r_a0:=cR a0
        have r_a1:=cR a1
        refine wQ ?_
        repeat (go_big_quiet_step (first|(with_reducible exact Hc1.out _ _ _)|(with_reducible exact Hc2.out _ _ _)))
        refine wpQuiet_nil fun w1 B1=>?_
        go_wp2_with fail
        go_ret
        exact ⟨zAB He.out.symm,bot (bal hbel _) B1⟩
       ·have He:=cH (Hon.out (by rw[Hz.out,Hpq.out];simp only[behind,lessB];rw[hls];rfl))
        clear Hend Hon
        go_wp2_with fail
        have a0:(wr.alloc (.cells #[.string nm,.slice pA rl pc] 158)).cell? ⟨wr.heap.size,0,none⟩=some (.string nm):=by simp[go_sem]
        have a1:(wr.alloc (.cells #[.string nm,.slice pA rl pc] 158)).cell? ⟨wr.heap.size,1,none⟩=some (.slice pA rl pc):=by simp[go_sem]
        have r_a0:=cR a0
        have r_a1:=cR a1
        refine wQ ?_
        repeat (go_big_quiet_step (first|(with_reducible exact Hc1.out _ _ _)|(with_reducible exact Hc2.out _ _ _)))
        refine wpQuiet_nil fun w1 B1=>?_
        go_wp2_with fail
        go_roundw
        case rel=>exact ⟨q+1+1,by omega,by go_num,He,bot (bal hbel _) B1⟩
        case measure=>simp[intOf];omega
  ·have He:Hid (r=decide ((n:Int)≤16)):=by
    unfold Hid
    rw[Hs.out,hgo.out,dN (by have:=Hnx.out;omega)]
    rw[show zBL (zBS l k) []=true from rfl,Bool.true_and]
    rw[Bool.eq_iff_iff];simp;omega
   clear hgo
   have hkn:¬(k:Int)<(n:Int):=by omega
   go_wp2_with fail
   go_ret
   exact ⟨zAB He.out.symm,hbel⟩
end Go.Proofs.YthbnmehbhpakaaaGreatDoor
namespace Go.Proofs.YthbnmehbhpakaaaGreatDoor
open Go.RowKit Go.Sort Go.Maps
noncomputable def zCQ (l:List ByteArray):Bool:=@decide l.Nodup (Classical.propDecidable _)
theorem zDa {l:List ByteArray} (h:l.Nodup):zCQ l=true:=by unfold zCQ;exact @decide_eq_true _ (Classical.propDecidable _) h
theorem zF4 {l:List ByteArray} (h:¬l.Nodup):zCQ l=false:=by unfold zCQ;exact @decide_eq_false _ (Classical.propDecidable _) h
noncomputable def cnt (x:ByteArray) (l:List ByteArray):Int:=@ite Int (x∈l) (Classical.propDecidable _) 1 0
theorem zJ3 {x:ByteArray} {l:List ByteArray} (h:x∈l):cnt x l=1:=by unfold cnt;exact @if_pos _ (Classical.propDecidable _) h _ _ _
theorem zFj {x:ByteArray} {l:List ByteArray} (h:x∉l):cnt x l=0:=by unfold cnt;exact @if_neg _ (Classical.propDecidable _) h _ _ _
theorem zIe (x:ByteArray) (l:List ByteArray):0≤cnt x l∧cnt x l≤1:=by
 by_cases h:x∈l
 ·rw[zJ3 h];omega
 ·rw[zFj h];omega
theorem zB4:Keyed Tryz.prog 9:=string_keyed Tryz.underlying9
theorem zNE (w:World):(zeroValue 3).run Tryz.prog w=.ok (.int .i64 0) w:=by kernel_rfl
def MapC (w:World) (B:Nat) (l:List ByteArray):Prop:=
 ∃ (n:Nat) (D:DataW Unit),w.ownsMap Tryz.prog 9 (plainElem Tryz.prog 3) B n D∧n≤l.length∧IsMap D∧∀ s:ByteArray,D.atKey (.string s.data.toList) (.lit (.int .i64 0))=.lit (.int .i64 (cnt s l))
theorem MapC.made (w:World):MapC (w.alloc (.map #[] 0)) w.heap.size []:=
 ⟨0,.map [],World.ownsMap_made _ _ _ _,nR _,isMap_empty,fun s=>by rw[zFj (by simp)];rfl⟩
theorem MapC.kept {w w':World} {B:Nat} {l:List ByteArray} {row:Option Nat} (h:MapC w B l) (hg:w.grownBy w' row) (hne:some B≠row):MapC w' B l:=by
 obtain ⟨n,D,h1,h2⟩:=h
 exact ⟨n,D,h1.kept hg hne,h2⟩
theorem MapC.keep {w w':World} {B:Nat} {l:List ByteArray} (h:MapC w B l) (hb:Below w.heap.size w w'):MapC w' B l:=
 h.kept (row:=none) ⟨hb.os,hb.tape,hb.output,hb.size,fun k hk _=>hb.block k hk⟩ (by simp)
theorem MapC.lt {w:World} {B:Nat} {l:List ByteArray} (h:MapC w B l):B<w.heap.size:=by
 obtain ⟨n,D,h1,_⟩:=h
 exact h1.lt
theorem zAt {a b:ByteArray} (h:a.data.toList=b.data.toList):a=b:=by
 apply ByteArray.ext
 exact Array.toList_inj.1 h
theorem zQ4 {W:World} {B:Nat} {l:List ByteArray} {x:ByteArray} (h:MapC W B l) (hx:x.size≤maxLen) (hl:l.length≤1000000000) :
  ∃ w',(Instr.lookup 246 (.map (some B)) (.string x) false).run Tryz.prog W=.ok (.int .i64 (cnt x l)) W ∧
    (Instr.mapUpdate 246 (.map (some B)) (.string x) (.int .i64 (cnt x l+1))).run Tryz.prog W=.ok () w'∧W.grownBy w' (some B) ∧
    (Instr.lookup 246 (.map (some B)) (.string x) false).run Tryz.prog w'=.ok (.int .i64 (cnt x l+1)) w'∧(x∉l→MapC w' B (l++[x])):=by
 obtain ⟨n,D,h1,h2,h3,h4⟩:=h
 have hkey:=Go.WideMaps.keyOf_string_mk (P:=Tryz.prog) Tryz.underlying9 hx
 obtain ⟨c,r1,r2,r3⟩:=h1.lookup_int zB4 Tryz.underlying246 Tryz.underlying3 (zNE W) hkey
 have hc:c=cnt x l:=by rw[h4 x] at r2;simpa using r2.symm
 subst hc
 have hb:=zIe x l
 have hwf:(Lit.int .i64 (cnt x l+1)).wf=true:=WalkArith.wf_i64 (by omega)
 obtain ⟨w',r4,r5,r6⟩:=h1.update zB4 Tryz.underlying246 (by unfold maxLen;omega) hkey (plainElem_int (H:=Unit) Tryz.underlying3 hwf)
 obtain ⟨c',r7,r8,r9⟩:=r5.lookup_int zB4 Tryz.underlying246 Tryz.underlying3 (zNE w') hkey
 rw[atKey_put_same h3 (by trivial)] at r8
 have hc':c'=cnt x l+1:=by simpa using r8.symm
 subst hc'
 refine ⟨w',r1,r4,r6,r7,fun hnot=>⟨n+1,_,r5,by simp;omega,h3.put _ _,fun s=>?_⟩⟩
 by_cases e:s=x
 ·subst e
  rw[atKey_put_same h3 (by trivial),zFj hnot,zJ3 (by simp)]
  rfl
 ·rw[atKey_put_other (fun he=>e (zAt (by simpa using he))),h4 s]
  by_cases hs:s∈l
  ·rw[zJ3 hs,zJ3 (by simp[hs])]
  ·rw[zFj hs,zFj (by simp[hs,e])]
def zAQ (l:List Dep):List ByteArray:=l.map (·.name)
def zAM (ls:List (List Dep)):List ByteArray:=(ls.map zAQ).flatten
theorem zJg {ls:List (List Dep)} {k:Nat} (h:k<ls.length):zAM (ls.take (k+1))=zAM (ls.take k)++zAQ ls[k]:=by
 unfold zAM
 rw[List.take_succ_eq_append_getElem h,List.map_append,List.flatten_append]
 simp only[List.map_cons,List.map_nil,List.flatten_cons,List.flatten_nil,List.append_nil]
theorem zKG {l:List Dep} {k:Nat} (h:k<l.length):zAQ (l.take (k+1))=zAQ (l.take k)++[l[k].name]:=by
 unfold zAQ
 rw[List.take_succ_eq_append_getElem h,List.map_append]
 rfl
theorem zH9 {ls:List (List Dep)} {k q:Nat} (h:k<ls.length) (hq:q<ls[k].length):∃ r,zAM ls=zAM (ls.take k)++(zAQ (ls[k].take (q+1))++r):=by
 refine ⟨zAQ (ls[k].drop (q+1))++zAM (ls.drop (k+1)),?_⟩
 have e1:ls=ls.take k++(ls[k]::ls.drop (k+1)):=by rw[←dC h,List.take_append_drop]
 have e2:zAQ ls[k]=zAQ (ls[k].take (q+1))++zAQ (ls[k].drop (q+1)):=by
  unfold zAQ;rw[←List.map_append,List.take_append_drop]
 conv=>lhs;rw[e1]
 simp only[zAM,List.map_append,List.map_cons,List.flatten_append,List.flatten_cons]
 rw[e2];simp[List.append_assoc]
theorem zKm {l d:List ByteArray} {x:ByteArray} {r:List ByteArray} (h:l=d++([x]++r)) (hx:x∈d):¬l.Nodup:=by
 intro hn
 rw[h] at hn
 have:=(List.nodup_append.1 hn).2.2 x hx x (by simp)
 exact this rfl
theorem zP8 (A:Option Addr) (n c:Nat) (ls:List (List Dep)) (w:World) (S:Nat→Prop) (hmax:(zAM ls).length≤1000000000) (hl:SlV (zAL rDep) w S ls (.slice A n c)) :
  Calls Tryz.prog 134 #[.slice A n c] w fun e w'=>e=.returned (.bool (zCQ (zAM ls)))∧Below w.heap.size w w':=by
 have hnx:=hl.n_eq
 have hcc:=hl.cap_le
 unfold maxLen at hcc
 have hn63:n≤9223372036854775807:=by omega
 have hl':=hl.more (S':=fun b=>b<w.heap.size) fun b _ hlt=>hlt
 have Hpos:Hid ((zAM ls).Nodup→zCQ (zAM ls)=true):=zDa
 have Hneg:Hid (¬(zAM ls).Nodup→zCQ (zAM ls)=false):=zF4
 have Hnx:=cH hnx;clear hnx
 have Hmax:=cH hmax;clear hmax
 clear hl hcc
 generalize zCQ (zAM ls)=r at *
 have hmm:=@run_makeMap Tryz.prog
 go_enter Tryz.func134,Tryz.ntmps134
 go_wp2_with fail
 clear hmm
 go_loopw [11] (fun i wr=>∃ (k:Nat),k≤n∧i=.int .i64 k∧Hid (MapC wr w.heap.size (zAM (ls.take k)))∧Hid ((zAM (ls.take k)).Nodup)∧Below w.heap.size w wr) (fun i _=>n - (intOf i).toNat)
 case atStart=>exact ⟨0,nZ _,rfl,MapC.made _,by simp[Hid,zAM],bal (bR _ _) _⟩
 case round=>
  obtain ⟨k,hk,rfl,hM,hnd,hbel⟩:=hrel
  by_cases hlt:k<n
  ·have hkx:k<ls.length:=by have:=Hnx.out;omega
   have hlw:=hl'.below hbel (fun b hb=>hb)
   obtain ⟨b,o,cs,rfl,hSb,hbl,hsp,hcell⟩:=hlw.elem (gE hkx)
   have hsp':=hsp
   obtain ⟨pA,pc,rfl,hpc1,hpc2,_⟩:=hsp
   have c0:=hcell 0 _ rfl
   simp only[zAL,Nat.add_zero,Nat.mul_one] at c0
   clear hcell hlw
   have Hs:Hid (SlV rDep wr (fun b=>b<w.heap.size) ls[k] (.slice pA ls[k].length pc)):=hsp'
   have Hsplit:=cH (fun q hq=>zH9 (q:=q) hkx hq)
   have Htk:=cH (zJg hkx)
   have hkn:(k:Int)<(n:Int):=by omega
   have hm63:ls[k].length≤9223372036854775807:=by unfold maxLen at hpc2;omega
   clear hsp' hpc1 hpc2
   generalize hd:zAM (ls.take k)=done at *
   have Hd:=cH hd;clear hd
   generalize hll:ls[k]=l at *
   have Hll:=cH hll;clear hll
   have hm0:∃ m,m=l.length:=⟨_,rfl⟩
   obtain ⟨m,hm0⟩:=hm0
   rw[←hm0] at c0 hm63
   have Hm:=cH hm0;clear hm0
   have Hsw:Hid (∀ W,Below w.heap.size w W→SlV rDep W (fun b=>b<w.heap.size) l (.slice pA m pc)):=by
    intro W hW
    rw[Hm.out]
    exact Hs.out.keep (fun b hb _=>(hW.block b hb).trans (hbel.block b hb).symm)
   obtain ⟨wo,rfl⟩:∃ wo:World,wo=wr:=⟨_,rfl⟩
   go_wp2_with fail
   go_loopw [17] (fun j wq=>∃ q:Nat,q≤m∧j=.int .i64 q∧Hid (MapC wq w.heap.size (done++zAQ (l.take q)))∧Hid ((done++zAQ (l.take q)).Nodup)∧Below w.heap.size w wq) (fun j _=>m - (intOf j).toNat)
   case atStart=>exact ⟨0,nZ _,rfl,by simpa [zAQ] using hM,by simpa [zAQ] using hnd,hbel⟩
   case round=>
    obtain ⟨q,hq,rfl,hMq,hndq,hbelq⟩:=hrel
    have hbwq:=hbelq.size
    by_cases hlq:q<m
    ·have hqx:q<l.length:=by have:=Hm.out;omega
     obtain ⟨b',o',cs',hA',hSb',hbl',⟨s1,rfl,hnm',hrg'⟩,hcell'⟩:=(Hsw.out _ hbelq).elem (gE hqx)
     obtain ⟨rA,rc,rfl,_,_⟩:=hrg'.val
     subst hA'
     have e0:=hcell' 0 _ rfl
     have e1:=hcell' 1 _ rfl
     simp only[rDep,Nat.add_zero] at e0 e1
     have Htq:=cH (zKG hqx)
     have Hspq:=cH (Hsplit.out q hqx)
     have hlt9:(done++zAQ (l.take q)).length≤1000000000:=by
      obtain ⟨r0,hr0⟩:=Hspq.out
      have h1:=congrArg List.length hr0
      have h2:=Hmax.out
      rw[Htq.out] at h1
      simp only[List.length_append] at *
      omega
     clear hcell' hrg'
     generalize l[q].name=x at *
     generalize l[q].range.length=rl at *
     have hqm:(q:Int)<(m:Int):=by omega
     have hb9:b'≠wr.heap.size:=by omega
     obtain ⟨w2,s1,s2,s3,s4,s5⟩:=zQ4 ((hMq.out).keep ((bR _ _).alloc (nR _) (.cells #[.string x,.slice rA rl rc] 158))) hnm' hlt9
     have hM1:=hMq.out.lt
     have f0:w2.cell? ⟨wr.heap.size,0,none⟩=some (.string x):=by
      have h1:=s3.block wr.heap.size (by simp) (by simp;omega)
      exact (zAI h1 _ _).trans (by simp)
     have HB2:Hid (Below w.heap.size w w2):=(bal hbelq _).grown s3 (nT hbwq (by simp)) (fun g hg=>by injection hg with hg;omega)
     have S5:=cH s5
     have hcb:=zIe x (done++zAQ (l.take q))
     clear s3 s5
     by_cases hin:x∈done++zAQ (l.take q)
     ·have hnn:¬(zAM ls).Nodup:=by
       obtain ⟨r0,hr0⟩:=Hspq.out
       rw[Htq.out] at hr0
       exact zKm (d:=done++zAQ (l.take q)) (r:=r0) (by rw[hr0];simp[List.append_assoc]) hin
      have He:=cH (Hneg.out hnn)
      rw[zJ3 hin] at s1 s2 s4
      rw[show (1:Int)+1=2 from rfl] at s2 s4
      clear hnn hin hcb Hspq Htq S5 hlt9
      go_wp2_with fail
      go_ret
      exact ⟨zAB He.out.symm,HB2.out⟩
     ·have Hn2:Hid (MapC w2 w.heap.size (done++zAQ (l.take (q+1)))):=by
       unfold Hid;rw[Htq.out,←List.append_assoc];exact S5.out hin
      have Hn3:Hid ((done++zAQ (l.take (q+1))).Nodup):=by
       unfold Hid;rw[Htq.out,←List.append_assoc]
       rw[List.nodup_append]
       exact ⟨hndq.out,by simp,fun a ha b hb=>by
        simp at hb;subst hb;intro e;exact hin (e▸ha)⟩
      rw[zFj hin] at s1 s2 s4
      rw[show (0:Int)+1=1 from rfl] at s2 s4
      clear hin hcb Hspq Htq S5 hlt9
      go_wp2_with fail
      go_roundw
      case rel=>exact ⟨q+1,by omega,by go_num,Hn2,Hn3,HB2.out⟩
      case measure=>simp[intOf];omega
    ·have hqm:q=m:=by omega
     have htq:l.take q=l:=by have:=Hm.out;rw[hqm,this];exact List.take_length
     have Hn2:Hid (MapC wr w.heap.size (zAM (ls.take (k+1)))):=by unfold Hid;rw[Htk.out];have:=hMq.out;rwa [htq] at this
     have Hn3:Hid ((zAM (ls.take (k+1))).Nodup):=by unfold Hid;rw[Htk.out];have:=hndq.out;rwa [htq] at this
     clear htq
     go_wp2_with fail
     go_roundw
     case rel=>exact ⟨k+1,by omega,by go_num,Hn2,Hn3,hbelq⟩
     case measure=>simp[intOf];omega
  ·have hkl:k=ls.length:=by have:=Hnx.out;omega
   have hn2:=hnd.out
   rw[hkl,List.take_length] at hn2
   have He:=cH (Hpos.out hn2)
   clear hkl hn2
   go_wp2_with fail
   go_ret
   exact ⟨zAB He.out.symm,hbel⟩
end Go.Proofs.YthbnmehbhpakaaaGreatDoor
namespace Go.Proofs.YthbnmehbhpakaaaGreatDoor
open Go.Rows Go.RowKit Go.Shelf
abbrev IsB (B b:Nat) (bs:List Value) (w:World):Prop:=Lib.IsBuilder 122 5 B b bs w
theorem zEc {B b:Nat} {p:Value} {bs:List Value} {w w':World} (h:Lib.BuilderAt 122 5 B b p bs w) (hb:Below w.heap.size w w'):Lib.BuilderAt 122 5 B b p bs w':=by
 have hlt:=h.lt
 obtain ⟨hB,v,hbk,hown,hne⟩:=h
 exact ⟨hB,v,(hb.block b hlt).trans hbk,hown.kept (row:=none) ⟨hb.os,hb.tape,hb.output,hb.size,fun k hk _=>hb.block k hk⟩ (by cases hv:v.ownBlock<;>simp),hne⟩
theorem IsB.keep {B b:Nat} {bs:List Value} {w w':World} (h:IsB B b bs w) (hb:Below w.heap.size w w'):IsB B b bs w':=
 h.elim (fun k=>.inl (zEc k hb)) (fun k=>.inr (zEc k hb))
theorem zEg (b:Nat) (w:World) (h0:w.cell? ⟨b,0,none⟩=some (.pointer (some ⟨b,0,none⟩))) :
  Calls Tryz.prog 124 #[.pointer (some ⟨b,0,none⟩)] w fun e w'=>e=.returned (.tuple #[])∧w'=w:=by
 obtain ⟨j,hj,_⟩:=Option.map_eq_some_iff.1 Tryz.Builder_Extra_169.sizeBuilder
 go_enter Tryz.func124,Tryz.ntmps124
 go_wp2
 rw[Lib.run_neq_ptr_same w _ Tryz.underlying119 hj]
 go_wp2
 go_end0
 exact ⟨rfl,rfl⟩
theorem zEK (b:Nat) (w:World) (h0:w.cell? ⟨b,0,none⟩=some (.pointer none)) (hsh:w.shape? b=some (122,2)) (hfz:w.frozen? ⟨b,0,none⟩=false) :
  Calls Tryz.prog 124 #[.pointer (some ⟨b,0,none⟩)] w fun e w'=>e=.returned (.tuple #[])∧w'=w.setCell ⟨b,0,none⟩ (.pointer (some ⟨b,0,none⟩)):=by
 obtain ⟨j,hj,hjs⟩:=Option.map_eq_some_iff.1 Tryz.Builder_Extra_169.sizeBuilder
 go_enter Tryz.func124,Tryz.ntmps124
 go_wp2
 rw[Lib.run_to_unsafe w ⟨b,0,none⟩ Tryz.underlying119 Tryz.underlying236 hj (by rw[hjs];decide) hsh (Nat.zero_lt_succ 1)]
 simp only[Result.andThen]
 rw[Oper.upon_value]
 go_wp2
 rw[run_callFunc_extern Tryz.func185 (by kernel_rfl) (by kernel_rfl) (by kernel_rfl) (e:=Extern.AbiNoEscape.same) (by kernel_rfl)]
 rw[Lib.run_noEscape]
 simp only[Result.andThen]
 rw[Oper.upon_value]
 go_wp2
 rw[Lib.run_from_unsafe w ⟨b,0,none⟩ Tryz.underlying236 Tryz.underlying119 hj hsh Tryz.Builder_Extra_169.liesBuilder]
 simp only[Result.andThen]
 rw[Oper.upon_value]
 go_wp2
 go_end0
 exact ⟨rfl,rfl⟩
theorem zJh (B b:Nat) (bs:List Value) (w:World) (h:IsB B b bs w) :
  Calls Tryz.prog 124 #[.pointer (some ⟨b,0,none⟩)] w fun e w'=>e=.returned (.tuple #[])∧(Lib.BuilderAt 122 5 B b (.pointer (some ⟨b,0,none⟩)) bs w'∧Below B w w'):=by
 rcases h with h|h
 ·refine (zEK b w h.cell0 h.shape h.frozen0).mono ?_
  rintro e w' ⟨rfl,rfl⟩
  exact ⟨rfl,h.used _,(bR B w).setCell (p:=⟨b,0,none⟩) h.1 _⟩
 ·refine (zEg b w h.cell0).mono ?_
  rintro e w' ⟨rfl,rfl⟩
  exact ⟨rfl,h,bR B _⟩
theorem zB3 (B b:Nat) (bs:List Value) (s:ByteArray) (w:World) (h:IsB B b bs w) (hlen:bs.length+s.size≤140737488355328) (hBw:B≤w.heap.size) :
  Calls Tryz.prog 62 #[.pointer (some ⟨b,0,none⟩),.string s] w fun e w'=>e=.returned (.tuple #[.int .i64 s.size,.nilIface])∧(Lib.BuilderAt 122 5 B b (.pointer (some ⟨b,0,none⟩)) (bs++Lib.strCells s) w'∧Below B w w'):=by
 obtain ⟨i0,hi,hz0,hz1,hz2⟩:=info_parts Tryz.Builder_Extra_169.infoByte
 go_enter Tryz.func62,Tryz.ntmps62
 go_wp2_with (go_at_call 124;refine (zJh B b bs _ h).mono ?_)
 rintro e w1 ⟨rfl,h1,hb1⟩
 obtain ⟨hB,v,hbk,hown,hne⟩:=h1
 have c0:w1.cell? ⟨b,0,none⟩=some (.pointer (some ⟨b,0,none⟩)):=by rw[Lib.cell_of_heap hbk];rfl
 have c1:w1.cell? ⟨b,1,none⟩=some v:=by rw[Lib.cell_of_heap hbk];rfl
 go_wp2_with (at_builtin;refine Lib.wpList_append_own_string _ rfl _ _ 120 9 rfl B 5 i0 Tryz.underlying120 Tryz.underlying9 hi hz0 hz1 hz2 _ _ _ rfl hown s rfl ?c3 ?c4 ?c5 ?_)
 case c3=>unfold maxLen;omega
 case c4=>omega
 case c5=>have:=hb1.size;omega
 intro v' w2 hown' hgrow _
 have hlt:b<w1.heap.size:=by
  rcases Nat.lt_or_ge b w1.heap.size with h'|h'
  ·exact h'
  ·simp[Array.getElem?_eq_none h'] at hbk
 have hb2:w2.heap[b]?=some (.cells #[.pointer (some ⟨b,0,none⟩),v] 122 (0,0)):=by
  rw[hgrow.block b hlt (fun e=>hne e.symm)]
  exact hbk
 have d0:w2.cell? ⟨b,0,none⟩=some (.pointer (some ⟨b,0,none⟩)):=by rw[Lib.cell_of_heap hb2];rfl
 have d1:w2.cell? ⟨b,1,none⟩=some v:=by rw[Lib.cell_of_heap hb2];rfl
 have f1:w2.frozen? ⟨b,1,none⟩=false:=Lib.frozen_of_heap hb2 1
 obtain ⟨ao,n',cap,rfl⟩:∃ ao n' cap,v'=.slice ao n' cap:=by
  rcases hown'.2 with ⟨hv,_⟩|⟨g,cap,cur,hv,_⟩
  ·exact ⟨_,_,_,hv⟩
  ·exact ⟨_,_,_,hv⟩
 go_wp2
 go_ret2
 refine ⟨rfl,?_,?_⟩
 ·exact Lib.BuilderAt.put (T:=122) (e:=5) hB hb2 (bs':=bs++Lib.strCells s) (by simpa [Lib.strCells_length] using hown') Tryz.Builder_Extra_169.neB5
 ·exact (hb1.grown hgrow (by have:=hb1.size;omega) (fun k hk=>(hown.lt k hk).1)).setCell (p:=⟨b,1,none⟩) hB _
