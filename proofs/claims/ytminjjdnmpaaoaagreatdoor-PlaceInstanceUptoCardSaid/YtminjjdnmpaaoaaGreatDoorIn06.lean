/- The plain law of names: what the library's Trim and TrimLeft tell of a text is that it is a name. -/
import Derived.Lib.SlTrimSet
import Derived.Test.YtminjjdnmpaaoaaGreatDoorRows
import Derived.Test.YtminjjdnmpaaoaaGreatDoorIn02
import Derived.Test.YtminjjdnmpaaoaaGreatDoorIn01
import Derived.WalkKit
import Derived.WalkSpells
import Derived.WalkLawsBesides
import Derived.IntWalk
import Derived.Lib.Hide
import Derived.Test.YtminjjdnmpaaoaaGreatDoorIn05
import Derived.Deep.RegionHeld3
import Derived.Laws.OwnMore
import Derived.Test.YtminjjdnmpaaoaaGreatDoorAl
set_option linter.all false
set_option maxHeartbeats 3200000
set_option maxRecDepth 100000
namespace Go.Proofs.YtminjjdnmpaaoaaGreatDoor
def zBN (b:UInt8):Bool:=decide (97≤b.toNat)&&decide (b.toNat≤122)
def zHB (b:UInt8):Bool:=(decide (48≤b.toNat)&&decide (b.toNat≤57))||decide (b.toNat=45)
def nameC (b:UInt8):Bool:=zBN b||zHB b
def nameL:List UInt8→Bool
 | []=>false
 | c::t=>zBN c&&t.all nameC&&decide (t.length+1≤16)
def zBs:List UInt8:=[97,98,99,100,101,102,103,104,105,106,107,108,109,110,111,112,113,114,115,116,117,118,119,120,121,122]
def zBT:List UInt8:=[97,98,99,100,101,102,103,104,105,106,107,108,109,110,111,112,113,114,115,116,117,118,119,120,121,122,48,49,50,51,52,53,54,55,56,57,45]
theorem zE4 {p:UInt8→Bool} (h:∀ n:Fin 256,p (UInt8.ofNat n.val)=true) (b:UInt8):p b=true:=by
 have:=h ⟨b.toNat,b.toNat_lt⟩
 simpa using this
theorem zE7 (b:UInt8):zBs.contains b=zBN b:=by
 have h:∀ b:UInt8,(zBs.contains b==zBN b)=true:=zE4 (by decide +kernel)
 simpa using h b
theorem zGk (b:UInt8):zBT.contains b=nameC b:=by
 have h:∀ b:UInt8,(zBT.contains b==nameC b)=true:=zE4 (by decide +kernel)
 simpa using h b
theorem zCi {p:UInt8→Bool}:∀ {l:List UInt8},l.dropWhile p=[]↔l.all p=true:=by
 intro l
 induction l with
 | nil=>simp
 | cons x l ih=>
   by_cases h:p x=true
   ·rw[List.dropWhile_cons_of_pos h,List.all_cons,h,Bool.true_and];exact ih
   ·rw[List.dropWhile_cons_of_neg h];simp[h]
theorem zKn (l cs:List UInt8):Lib.trimS l cs=[]↔l.all (cs.contains ·)=true:=by
 unfold Lib.trimS Lib.trimLeftS Lib.trimRightS
 rw[zCi]
 constructor
 ·intro h
  by_cases hn:(l.reverse.dropWhile (cs.contains ·))=[]
  ·have:=zCi.1 hn
   simpa using this
  ·exfalso
   obtain ⟨x,t,hx⟩:=List.exists_cons_of_ne_nil hn
   have h1:cs.contains x=true:=by
    have:=List.all_eq_true.1 h x (by rw[hx];simp)
    exact this
   have h2:∀ (l:List UInt8),l.dropWhile (cs.contains ·)=x::t→cs.contains x=false:=by
    intro l
    induction l with
    | nil=>intro h;simp at h
    | cons y l ih=>
      intro h
      by_cases hy:cs.contains y=true
      ·rw[List.dropWhile_cons_of_pos hy] at h;exact ih h
      ·rw[List.dropWhile_cons_of_neg hy] at h
       injection h with h3 h4
       subst h3
       simpa using hy
   rw[h2 _ hx] at h1
   cases h1
 ·intro h
  have:l.reverse.dropWhile (cs.contains ·)=[]:=zCi.2 (by simpa using h)
  rw[this];rfl
theorem zI8 (l:List UInt8) (h0:l≠[]) (h16:l.length≤16) :
  (Lib.trimLeftS l zBs=l→nameL l=false)∧(Lib.trimLeftS l zBs≠l→nameL l=(Lib.trimS (Lib.trimLeftS l zBs) zBT).isEmpty):=by
 cases l with
 | nil=>exact absurd rfl h0
 | cons c t=>
   by_cases hc:zBN c=true
   ·have hd:Lib.trimLeftS (c::t) zBs=t.dropWhile zBN:=by
     unfold Lib.trimLeftS
     have:(fun x=>zBs.contains x)=zBN:=funext zE7
     rw[this,List.dropWhile_cons_of_pos hc]
    have hlen:(t.dropWhile zBN).length≤t.length:=(List.dropWhile_sublist _).length_le
    refine ⟨fun h=>?_,fun _=>?_⟩
    ·rw[hd] at h
     have:=congrArg List.length h
     simp at this
     omega
    ·rw[hd]
     have e1:(Lib.trimS (t.dropWhile zBN) zBT).isEmpty=(t.dropWhile zBN).all nameC:=by
      have hs:(fun x=>zBT.contains x)=nameC:=funext zGk
      have h3:=zKn (t.dropWhile zBN) zBT
      rw[hs] at h3
      by_cases hq:(t.dropWhile zBN).all nameC=true
      ·rw[hq,h3.2 hq];rfl
      ·have hne:Lib.trimS (t.dropWhile zBN) zBT≠[]:=fun e=>hq (h3.1 e)
       rw[Bool.eq_false_iff.2 hq]
       cases hh:Lib.trimS (t.dropWhile zBN) zBT with
       | nil=>exact absurd hh hne
       | cons _ _=>rfl
     have e2:∀ t:List UInt8,(t.dropWhile zBN).all nameC=t.all nameC:=by
      intro t
      induction t with
      | nil=>rfl
      | cons x t ih=>
        by_cases hx:zBN x=true
        ·rw[List.dropWhile_cons_of_pos hx,ih,List.all_cons];simp[nameC,hx]
        ·rw[List.dropWhile_cons_of_neg hx]
     rw[e1,e2]
     have:t.length+1≤16:=by simpa using h16
     simp[nameL,hc,this]
   ·have hd:Lib.trimLeftS (c::t) zBs=c::t:=by
     unfold Lib.trimLeftS
     have:(fun x=>zBs.contains x)=zBN:=funext zE7
     rw[this,List.dropWhile_cons_of_neg hc]
    exact ⟨fun _=>by simp[nameL,hc],fun h=>absurd hd h⟩
theorem zFW {l:List UInt8} (h:16<l.length):nameL l=false:=by
 cases l with
 | nil=>simp at h
 | cons c t=>have:¬t.length+1≤16:=by simp at h;omega
             simp[nameL,this]
end Go.Proofs.YtminjjdnmpaaoaaGreatDoor
namespace Go.Proofs.YtminjjdnmpaaoaaGreatDoor
open Go.RowKit
def nameB (s:ByteArray):Bool:=nameL s.data.toList
theorem zFg (s:ByteArray) (w:World) :
  Calls Tryz.prog 67 #[.string s,.string ⟨zBs.toArray⟩] w fun e w'=>e=.returned (.string ⟨(Lib.trimLeftS s.data.toList zBs).toArray⟩)∧Below w.heap.size w w':=
 Any.strings_TrimLeft_laid Tryz.laysTrimLeft (by kernel_rfl) s ⟨zBs.toArray⟩ w (by decide) (ascii_of_all (by decide))
theorem zJX (s:ByteArray) (hs:s.size≤9223372036854775807) (w:World) :
  Calls Tryz.prog 68 #[.string s,.string ⟨zBT.toArray⟩] w fun e w'=>e=.returned (.string ⟨(Lib.trimS s.data.toList zBT).toArray⟩)∧Below w.heap.size w w':=
 Any.strings_Trim_laid Tryz.laysTrim (by kernel_rfl) s ⟨zBT.toArray⟩ w hs (by decide) (ascii_of_all (by decide))
theorem zBV (s:ByteArray):s.toList=s.data.toList:=Go.ByteArray.toList_eq s
theorem zBD (s:ByteArray):s.size=s.data.toList.length:=by
 rw[show s.size=s.data.size from rfl,Array.length_toList]
theorem zBe (s:ByteArray) (hs:s.size≤maxLen) (w:World) :
  Calls Tryz.prog 36 #[.string s] w fun e w'=>e=.returned (.bool (nameB s))∧Below w.heap.size w w':=by
 have hs63:s.size≤9223372036854775807:=by unfold maxLen at hs;omega
 have hsz:=zBD s
 have hL:=zFg s w
 by_cases h0:s.data.toList=[]
 ·have h0':s.toList.isEmpty=true:=by rw[zBV,h0];rfl
  have h0'':s.toList=[]:=by rw[zBV,h0]
  have Hn:Hid (nameB s=false):=by unfold Hid nameB;rw[h0];rfl
  have HL:=cH hL
  have Hd:=cH h0
  clear hL h0 hsz
  go_enter Tryz.func36,Tryz.ntmps36
  go_wp2_with fail
  refine HL.out.mono ?_
  rintro e w1 ⟨rfl,hb⟩
  go_wp2
  go_ret
  exact ⟨zAB (by rw[Hn.out]),hb⟩
 ·have h0':s.toList.isEmpty=false:=by rw[zBV];cases hh:s.data.toList with
   | nil=>exact absurd hh h0
   | cons _ _=>rfl
  have h0'':¬s.toList=[]:=by rw[zBV];exact h0
  by_cases h16:s.size≤16
  ·have ht:=zI8 s.data.toList h0 (by omega)
   by_cases hT:Lib.trimLeftS s.data.toList zBs=s.data.toList
   ·have Hn:Hid (nameB s=false):=ht.1 hT
    rw[hT] at hL
    have hself:(⟨s.data.toList.toArray⟩:ByteArray)=s:=by cases s;simp
    rw[hself] at hL
    have HL:=cH hL
    clear hL h0 hsz ht hT hself
    go_enter Tryz.func36,Tryz.ntmps36
    go_wp2_with fail
    refine HL.out.mono ?_
    rintro e w1 ⟨rfl,hb⟩
    go_wp2
    go_ret
    exact ⟨zAB (by rw[Hn.out]),hb⟩
   ·have hTr:=ht.2 hT
    have hrl:(Lib.trimLeftS s.data.toList zBs).length≤s.data.toList.length:=(List.dropWhile_sublist _).length_le
    have hne:(Lib.trimLeftS s.data.toList zBs==s.toList)=false:=by rw[zBV];simpa using hT
    have HC:=cH (fun W=>zJX ⟨(Lib.trimLeftS s.data.toList zBs).toArray⟩ (by rw[zBD];simp;omega) W)
    have Hn:Hid (nameB s=(Lib.trimS (Lib.trimLeftS s.data.toList zBs) zBT).isEmpty):=hTr
    generalize Lib.trimLeftS s.data.toList zBs=r at *
    have HL:=cH hL
    have HT:=cH hT
    clear hL h0 hsz ht hT hTr hrl
    have HC':Hid (∀ W,Calls Tryz.prog 68 #[.string ⟨r.toArray⟩,.string ⟨zBT.toArray⟩] W fun e w'=>e=.returned (.string ⟨(Lib.trimS r zBT).toArray⟩)∧Below W.heap.size W w'):=fun W=>HC.out W
    clear HC
    generalize Lib.trimS r zBT=q at *
    go_enter Tryz.func36,Tryz.ntmps36
    go_wp2_with fail
    refine HL.out.mono ?_
    rintro e w1 ⟨rfl,hb⟩
    go_wp2_with fail
    refine (HC'.out w1).mono ?_
    rintro e w2 ⟨rfl,hb2⟩
    go_wp2
    go_ret
    exact ⟨zAB (by rw[Hn.out]),hb.trans (hb2.mono hb.size)⟩
  ·have Hn:Hid (nameB s=false):=zFW (by omega)
   have h16':16<s.size:=by omega
   have HL:=cH hL
   clear hL h0 hsz
   go_enter Tryz.func36,Tryz.ntmps36
   go_wp2_with fail
   refine HL.out.mono ?_
   rintro e w1 ⟨rfl,hb⟩
   go_wp2
   go_ret
   exact ⟨zAB (by rw[Hn.out]),hb⟩
def zB5:Nat→List UInt8→Bool
 | _,[]=>true
 | k,c::t=>(zBN c||(decide (k≠0)&&zHB c))&&zB5 (k+1) t
theorem zI7:∀ (l:List UInt8) (k:Nat),k≠0→zB5 k l=l.all nameC:=by
 intro l
 induction l with
 | nil=>intro k _;rfl
 | cons c t ih=>intro k hk;rw[zB5,ih (k+1) (by omega),List.all_cons];simp[hk,nameC]
theorem zH8 (l:List UInt8) (h:l≠[]):nameL l=(zB5 0 l&&decide (l.length≤16)):=by
 cases l with
 | nil=>exact absurd rfl h
 | cons c t=>rw[zB5,zI7 t 1 (by decide)];simp[nameL]
theorem zM5 (s:ByteArray) (k:Nat) (h:k<s.size):s.data.toList.drop k=s[k]::s.data.toList.drop (k+1):=by
 have h':k<s.data.toList.length:=by rw[←zBD];exact h
 rw[dC h']
 rfl
theorem zFZ (s:ByteArray) (hs:s.size≤maxLen) (w:World) :
  Calls Tryz.prog 97 #[.string s] w fun e w'=>e=.returned (.bool (nameB s))∧w=w':=by
 unfold maxLen at hs
 have hnil:s.size=0→nameB s=false:=fun h=>by
  have:s.data.toList=[]:=List.eq_nil_of_length_eq_zero (by rw[←zBD];exact h)
  unfold nameB;rw[this];rfl
 have hgo:s.size≠0→nameB s=(zB5 0 s.data.toList&&decide (s.size≤16)):=fun h=>by
  unfold nameB;rw[zH8 _ (by intro e;apply h;rw[zBD,e];rfl),←zBD]
 have Hnil:=cH hnil;clear hnil
 have Hgo:=cH hgo;clear hgo
 go_enter Tryz.func97,Tryz.ntmps97
 go_wp2
 go_loop [3] (fun i=>∃ k:Nat,k≤s.size∧i=.int .i64 k∧Hid (zB5 0 s.data.toList=zB5 k (s.data.toList.drop k))) (fun i=>s.size - (intOf i).toNat)
 case atStart=>exact ⟨0,nZ _,rfl,rfl⟩
 case round=>
  obtain ⟨k,hk,rfl,hrl⟩:=hrel
  by_cases hlt:k<s.size
  ·have hb:=zM5 s k hlt
   have hst:zB5 k (s.data.toList.drop k)=((zBN s[k]||(decide (k≠0)&&zHB s[k]))&&zB5 (k+1) (s.data.toList.drop (k+1))):=by rw[hb,zB5]
   have Hst:=cH (hrl.out.trans hst)
   have hno:(zBN s[k]||(decide (k≠0)&&zHB s[k]))=false→nameB s=false:=fun h=>by
    rw[Hgo.out (by omega),Hst.out,h];rfl
   have Hno:=cH hno
   clear hb hst hno hrl
   have hlow:Hid (zBN s[k]=(decide (97≤s[k].toNat)&&decide (s[k].toNat≤122))):=rfl
   have hoth:Hid (zHB s[k]=((decide (48≤s[k].toNat)&&decide (s[k].toNat≤57))||decide (s[k].toNat=45))):=rfl
   by_cases q1:97≤(s[k].toNat:Int)∧(s[k].toNat:Int)≤122
   ·obtain ⟨q2,q3⟩:=q1
    have hok:Hid (zB5 0 s.data.toList=zB5 (k+1) (s.data.toList.drop (k+1))):=by
     unfold Hid;rw[Hst.out,hlow.out];simp;omega
    go_wp2_with fail
    go_round
    case rel=>exact ⟨k+1,by omega,by go_num,hok⟩
    case measure=>simp[intOf];omega
   ·have hcl:((s[k].toNat:Int)<45∧((s[k].toNat:Int)==45)=false)∨((s[k].toNat:Int)=45∧((s[k].toNat:Int)==45)=true)∨((45:Int)<s[k].toNat∧(s[k].toNat:Int)<48∧((s[k].toNat:Int)==45)=false) ∨
      ((48:Int)≤s[k].toNat∧(s[k].toNat:Int)≤57)∨((57:Int)<s[k].toNat∧(s[k].toNat:Int)<97∧((s[k].toNat:Int)==45)=false)∨((122:Int)<s[k].toNat∧((s[k].toNat:Int)==45)=false):=by
     by_cases e45:(s[k].toNat:Int)=45
     ·exact .inr (.inl ⟨e45,by simp[e45]⟩)
     ·have e45':((s[k].toNat:Int)==45)=false:=by simpa using e45
      have h5:(s[k].toNat:Int)<45∨((45:Int)<s[k].toNat∧(s[k].toNat:Int)<48)∨((48:Int)≤s[k].toNat∧(s[k].toNat:Int)≤57)∨((57:Int)<s[k].toNat∧(s[k].toNat:Int)<97)∨(122:Int)<s[k].toNat:=by omega
      rcases h5 with h|h|h|h|h
      ·exact .inl ⟨h,e45'⟩
      ·exact .inr (.inr (.inl ⟨h.1,h.2,e45'⟩))
      ·exact .inr (.inr (.inr (.inl h)))
      ·exact .inr (.inr (.inr (.inr (.inl ⟨h.1,h.2,e45'⟩))))
      ·exact .inr (.inr (.inr (.inr (.inr ⟨h,e45'⟩))))
    have hkk:(k=0∧((k:Int)==0)=true)∨(k≠0∧((k:Int)==0)=false):=by
     by_cases e0:k=0
     ·exact .inl ⟨e0,by simp[e0]⟩
     ·exact .inr ⟨e0,by simp[e0]⟩
    have hbad:Hid (((s[k].toNat:Int)<45∨((45:Int)<s[k].toNat∧(s[k].toNat:Int)<48)∨((57:Int)<s[k].toNat)∨k=0)→nameB s=false):=fun h=>Hno.out (by
     rw[hlow.out,hoth.out]
     simp
     omega)
    have hgood:Hid (k≠0→((s[k].toNat:Int)=45∨((48:Int)≤s[k].toNat∧(s[k].toNat:Int)≤57))→zB5 0 s.data.toList=zB5 (k+1) (s.data.toList.drop (k+1))):=fun h h'=>by
     rw[Hst.out,hlow.out,hoth.out]
     simp
     omega
    have Q1:=cH q1
    clear q1
    rcases hcl with ⟨c1,c2⟩|⟨c1,c2⟩|⟨c1,c2,c3⟩|⟨c1,c2⟩|⟨c1,c2,c3⟩|⟨c1,c2⟩
    ·rcases hkk with ⟨hk0,hk1⟩|⟨hk0,hk1⟩
     ·have HB:=cH (hbad.out (by omega))
      clear hbad hgood Hno hk0
      go_wp2_with fail
      all_goals first
       | (go_ret
          exact ⟨zAB HB.out.symm,rfl⟩)
       | (exfalso
          rename_i hx
          rcases hx with hx|hx<;>simp at hx<;>omega)
       | (exfalso
          rename_i hx
          simp at hx
          omega)
     ·have HB:=cH (hbad.out (by omega))
      clear hbad hgood Hno hk0
      go_wp2_with fail
      all_goals first
       | (go_ret
          exact ⟨zAB HB.out.symm,rfl⟩)
       | (exfalso
          rename_i hx
          rcases hx with hx|hx<;>simp at hx<;>omega)
       | (exfalso
          rename_i hx
          simp at hx
          omega)
    ·rcases hkk with ⟨hk0,hk1⟩|⟨hk0,hk1⟩
     ·have HB:=cH (hbad.out (by omega))
      clear hbad hgood Hno hk0
      go_wp2_with fail
      all_goals first
       | (go_ret
          exact ⟨zAB HB.out.symm,rfl⟩)
       | (exfalso
          rename_i hx
          rcases hx with hx|hx<;>simp at hx<;>omega)
       | (exfalso
          rename_i hx
          simp at hx
          omega)
     ·have HG:=cH (hgood.out hk0 (by omega))
      clear hbad hgood Hno hk0
      go_wp2_with fail
      all_goals first
       | (go_round
          case rel=>exact ⟨k+1,by omega,by go_num,HG⟩
          case measure=>simp[intOf];omega)
       | (exfalso
          rename_i hx
          rcases hx with hx|hx<;>simp at hx<;>omega)
       | (exfalso
          rename_i hx
          simp at hx
          omega)
    ·rcases hkk with ⟨hk0,hk1⟩|⟨hk0,hk1⟩
     ·have HB:=cH (hbad.out (by omega))
      clear hbad hgood Hno hk0
      go_wp2_with fail
      all_goals first
       | (go_ret
          exact ⟨zAB HB.out.symm,rfl⟩)
       | (exfalso
          rename_i hx
          rcases hx with hx|hx<;>simp at hx<;>omega)
       | (exfalso
          rename_i hx
          simp at hx
          omega)
     ·have HB:=cH (hbad.out (by omega))
      clear hbad hgood Hno hk0
      go_wp2_with fail
      all_goals first
       | (go_ret
          exact ⟨zAB HB.out.symm,rfl⟩)
       | (exfalso
          rename_i hx
          rcases hx with hx|hx<;>simp at hx<;>omega)
       | (exfalso
          rename_i hx
          simp at hx
          omega)
    ·rcases hkk with ⟨hk0,hk1⟩|⟨hk0,hk1⟩
     ·have HB:=cH (hbad.out (by omega))
      clear hbad hgood Hno hk0
      go_wp2_with fail
      all_goals first
       | (go_ret
          exact ⟨zAB HB.out.symm,rfl⟩)
       | (exfalso
          rename_i hx
          rcases hx with hx|hx<;>simp at hx<;>omega)
       | (exfalso
          rename_i hx
          simp at hx
          omega)
     ·have HG:=cH (hgood.out hk0 (by omega))
      clear hbad hgood Hno hk0
      go_wp2_with fail
      all_goals first
       | (go_round
          case rel=>exact ⟨k+1,by omega,by go_num,HG⟩
          case measure=>simp[intOf];omega)
       | (exfalso
          rename_i hx
          rcases hx with hx|hx<;>simp at hx<;>omega)
       | (exfalso
          rename_i hx
          simp at hx
          omega)
    ·rcases hkk with ⟨hk0,hk1⟩|⟨hk0,hk1⟩
     ·have HB:=cH (hbad.out (by omega))
      clear hbad hgood Hno hk0
      go_wp2_with fail
      all_goals first
       | (go_ret
          exact ⟨zAB HB.out.symm,rfl⟩)
       | (exfalso
          rename_i hx
          rcases hx with hx|hx<;>simp at hx<;>omega)
       | (exfalso
          rename_i hx
          simp at hx
          omega)
     ·have HB:=cH (hbad.out (by omega))
      clear hbad hgood Hno hk0
      go_wp2_with fail
      all_goals first
       | (go_ret
          exact ⟨zAB HB.out.symm,rfl⟩)
       | (exfalso
          rename_i hx
          rcases hx with hx|hx<;>simp at hx<;>omega)
       | (exfalso
          rename_i hx
          simp at hx
          omega)
    ·rcases hkk with ⟨hk0,hk1⟩|⟨hk0,hk1⟩
     ·have HB:=cH (hbad.out (by omega))
      clear hbad hgood Hno hk0
      go_wp2_with fail
      all_goals first
       | (go_ret
          exact ⟨zAB HB.out.symm,rfl⟩)
       | (exfalso
          rename_i hx
          rcases hx with hx|hx<;>simp at hx<;>omega)
       | (exfalso
          rename_i hx
          simp at hx
          omega)
     ·have HB:=cH (hbad.out (by omega))
      clear hbad hgood Hno hk0
      go_wp2_with fail
      all_goals first
       | (go_ret
          exact ⟨zAB HB.out.symm,rfl⟩)
       | (exfalso
          rename_i hx
          rcases hx with hx|hx<;>simp at hx<;>omega)
       | (exfalso
          rename_i hx
          simp at hx
          omega)
  ·have hkn:k=s.size:=by omega
   by_cases h0:s.size=0
   ·have e1:s.toList=[]:=by rw[zBV];exact List.eq_nil_of_length_eq_zero (by rw[←zBD];exact h0)
    have e2:s.toList.isEmpty=true:=by rw[e1];rfl
    have HN:=cH (Hnil.out h0)
    clear h0 hkn
    go_wp2_with fail
    go_ret
    exact ⟨zAB HN.out.symm,rfl⟩
   ·have e1:¬s.toList=[]:=by
     rw[zBV];intro e;apply h0;rw[zBD,e];rfl
    have e2:s.toList.isEmpty=false:=by
     cases hh:s.toList with
     | nil=>exact absurd hh e1
     | cons _ _=>rfl
    have HN:Hid (nameB s=decide (s.size≤16)):=by
     unfold Hid
     rw[Hgo.out h0,hrl.out,dN (by rw[←zBD];omega),zB5,Bool.true_and]
    clear h0 hkn
    go_wp2_with fail
    go_ret
    exact ⟨zAB (by rw[HN.out];exact decide_eq_decide.2 (by omega)),rfl⟩
end Go.Proofs.YtminjjdnmpaaoaaGreatDoor
namespace Go.Proofs.YtminjjdnmpaaoaaGreatDoor
open Go.Rows Go.RowKit Go.Shelf Go.Sort
noncomputable def zAj (t:List Dir) (p:List ByteArray) (s:ByteArray):Nat→Int
 | 0=>-1
 | q+1=>bif decide (0≤findI t (p.take q++[s])) then findI t (p.take q++[s]) else zAj t p s q
noncomputable def lookI (t:List Dir) (i:Int) (s:ByteArray):Int:=
 if h:0≤i∧i.toNat<t.length then (bif nameB s then zAj t (t[i.toNat]'h.2).path s ((t[i.toNat]'h.2).path.length+1) else -1) else -1
theorem keepL {w0 W W':World} {a:Nat} {v:Value} (hb:Below W.heap.size W W') (hc:W.cell? ⟨a,0,none⟩=some v) (hB:Below w0.heap.size w0 W) (hz:a<w0.heap.size):W'.cell? ⟨a,0,none⟩=some v∧Below w0.heap.size w0 W':=
 ⟨zAA hb hc (lL hz hB.size),bot hB hb⟩
theorem zEh (A:Option Addr) (n c:Nat) (xs:List Dir) (s:ByteArray) (w:World) (S:Nat→Prop) (i:Int) (hs:s.size≤maxLen) (hlen:∀ d∈xs,d.path.length * 32≤140737488355328) (hx:SlV rDir w S xs (.slice A n c)) :
  Calls Tryz.prog 17 #[.agg #[.slice A n c],.int .i64 i,.string s] w fun e w'=>e=.returned (.int .i64 (lookI xs i s))∧Below w.heap.size w w':=by
 have hnx:=hx.n_eq
 have hcx:=hx.cap_le
 unfold maxLen at hcx
 by_cases h0:i<0
 ·have hd:decide (i<0)=true:=decide_eq_true h0
  have He:Hid (lookI xs i s=-1):=by unfold Hid lookI;rw[dif_neg (by omega)]
  clear hx hnx hcx hlen
  generalize lookI xs i s=R at *
  go_enter Tryz.func17,Tryz.ntmps17
  go_wp2_with fail
  go_ret
  exact ⟨zAu He.out.symm,bal (bR _ _) _⟩
 have hd:decide (i<0)=false:=decide_eq_false h0
 by_cases h1:(n:Int)≤i
 ·have hd1:decide ((n:Int)≤i)=true:=decide_eq_true h1
  have He:Hid (lookI xs i s=-1):=by unfold Hid lookI;rw[dif_neg (by omega)]
  clear hx hnx hcx hlen
  generalize lookI xs i s=R at *
  go_enter Tryz.func17,Tryz.ntmps17
  go_wp2_with fail
  go_ret
  exact ⟨zAu He.out.symm,bal (bR _ _) _⟩
 have hd1:decide ((n:Int)≤i)=false:=decide_eq_false h1
 obtain ⟨k,rfl⟩:∃ k:Nat,i=(k:Int):=⟨i.toNat,by omega⟩
 have hk:k<xs.length:=by omega
 have Hnm:=cH (fun W=>zBe s hs W)
 have HR:Hid (lookI xs (k:Int) s=bif nameB s then zAj xs xs[k].path s (xs[k].path.length+1) else -1):=by
  unfold Hid lookI;rw[dif_pos (by omega)];simp only[Int.toNat_natCast]
 generalize lookI xs (k:Int) s=R at *
 have hkn:(k:Int)<(n:Int):=by omega
 have hk0:(0:Int)≤(k:Int):=by omega
 cases hnb:nameB s
 ·have He:Hid (R=-1):=by unfold Hid;rw[HR.out,hnb];rfl
  rw[hnb] at Hnm
  clear hx hnx hcx hlen hnb HR
  go_enter Tryz.func17,Tryz.ntmps17
  go_wp2_with fail
  refine (Hnm.out _).mono ?_
  rintro e w1 ⟨rfl,B1⟩
  go_wp2_with fail
  go_ret
  exact ⟨zAu He.out.symm,bnew B1⟩
 rw[hnb] at Hnm
 have HR1:Hid (R=zAj xs xs[k].path s (xs[k].path.length+1)):=by unfold Hid;rw[HR.out,hnb];rfl
 clear HR hnb
 have hlk:=hlen xs[k] (List.getElem_mem hk)
 have HX:=cH hx
 have HS:=cH hs
 obtain ⟨b,o,cs,rfl,_,hb1,hh,hcell⟩:=hx.elem (gE hk)
 obtain ⟨s0,s1,s2,s3,rfl,hp,_,_,_,_,_,_,_,_⟩:=hh
 obtain ⟨pA,pc,rfl,hpl,hpm⟩:=hp.val
 unfold maxLen at hpm
 have c0:=hcell 0 _ rfl
 simp only[rDir,Nat.add_zero] at c0
 have HP:=cH hp
 clear hcell hp hx hs hlen hcx hnx
 generalize xs[k].path=path at *
 generalize hl0:path.length=l0 at *
 have Hl0:=cH hl0;clear hl0
 go_enter Tryz.func17,Tryz.ntmps17
 go_wp2_with fail
 obtain ⟨w0,hw0⟩:∃ w0,w0=w.alloc (.cells #[.slice (some ⟨b,o,none⟩) n c] 33):=⟨_,rfl⟩
 have hz:w.heap.size<w0.heap.size:=by rw[hw0];simp[go_sem]
 have hb0:Below w.heap.size w w0:=by rw[hw0];exact bal (bR _ _) _
 have a0:w0.cell? ⟨w.heap.size,0,none⟩=some (.slice (some ⟨b,o,none⟩) n c):=by rw[hw0];simp[go_sem]
 rw[←hw0]
 have HB0:=cH hb0;clear hb0 hw0
 refine (Hnm.out w0).mono ?_
 rintro e w1 ⟨rfl,B1⟩
 have Q1:=cH B1;clear B1 Hnm
 have e0:=zAA (bot HB0.out Q1.out) c0 hb1
 have e1:=zAA Q1.out a0 hz
 go_wp2_with fail
 clear e0 e1
 go_loopw [8] (fun i wr=>((i=.int .i64 (-1)∧Hid (R=-1))∨∃ q:Nat,q≤l0∧i=.int .i64 q∧Hid (R=zAj xs path s (q+1)))∧Below w0.heap.size w0 wr) (fun i _=>(intOf i+1).toNat)
 case atStart=>exact ⟨.inr ⟨l0,nR _,rfl,HR1⟩,Q1.out⟩
 case round=>
  obtain ⟨hor,hbel⟩:=hrel
  have b0:=zAA hbel a0 hz
  have hbel':=bot HB0.out hbel
  rcases hor with ⟨rfl,He⟩|⟨q,hq,rfl,HRq⟩
  ·go_wp2_with fail
   go_ret
   exact ⟨zAu He.out.symm,hbel'⟩
  ·have hq0:(0:Int)≤(q:Int):=by omega
   have hqc:q≤pc:=by omega
   have hw2:IntKind.i64.wrap (q:Int)=(q:Int):=IntWalk.i64_in _ ⟨by omega,by omega⟩
   go_wp2_with fail
   have Hj:Hid (∀ W,Below w0.heap.size w0 W→Calls Tryz.prog 37 #[.slice pA q pc,.string s] W fun e w'=>∃ v,e=.returned v∧SlV rStr w' (fun _=>True) (path.take q++[s]) v∧Below W.heap.size W w'):=fun W hW=>
    zJD pA q pc (path.take q) s W _ HS.out (by rw[List.length_take];omega) (SlV.take (HP.out.belowSize (bot HB0.out hW)) (by rw[Hl0.out];exact hq))
   have Hf:Hid (∀ W vA m vc,Below w0.heap.size w0 W→SlV rStr W (fun _=>True) (path.take q++[s]) (.slice vA m vc)→Calls Tryz.prog 18 #[.agg #[.slice (some ⟨b,o,none⟩) n c],.slice vA m vc] W fun e w'=>e=.returned (.int .i64 (findI xs (path.take q++[s])))∧Below W.heap.size W w'):=fun W vA m vc hW hv=>
    zDR _ _ _ _ _ _ xs _ W _ _ (HX.out.belowSize (bot HB0.out hW)) hv
   have Hst:Hid (zAj xs path s (q+1)=bif decide (0≤findI xs (path.take q++[s])) then findI xs (path.take q++[s]) else zAj xs path s q):=rfl
   generalize findI xs (path.take q++[s])=f at *
   generalize path.take q++[s]=jp at *
   generalize zAj xs path s (q+1)=LD at *
   go_region_held3 (fun w'=>w'.cell? ⟨w.heap.size,0,none⟩=some (.slice (some ⟨b,o,none⟩) n c)∧Below w0.heap.size w0 w')
    (first
      | exact ⟨b0,hbel.drew⟩
      | (go_split_ands;exact keepL (by assumption) (by assumption) (by assumption) hz))
    (first
      | (go_at_call 37;go_split_ands;with_reducible refine (Hj.out _ (by assumption)).mono ?_;rintro e w2 ⟨v,rfl,hv,hb2⟩;obtain ⟨vA,vc,rfl,_,_⟩:=hv.val)
      | (go_at_call 18;go_split_ands;with_reducible refine (Hf.out _ _ _ _ (by assumption) (by assumption)).mono ?_;rintro e w3 ⟨rfl,hb3⟩))
   all_goals
    have HBw:Hid (Below w0.heap.size w0 w3):=by (go_split_ands;assumption)
    have HRr:Hid (R=bif decide (0≤f) then f else zAj xs path s q):=HRq.out.trans Hst.out
    by_cases hf:0≤f
    ·have He:Hid (R=f):=by unfold Hid;rw[HRr.out,decide_eq_true hf];rfl
     go_wp2_with fail
     go_ret
     exact ⟨zAu He.out.symm,bot HB0.out HBw.out⟩
    ·have hfk:decide (0≤f)=false:=decide_eq_false hf
     have He:Hid (R=zAj xs path s q):=by unfold Hid;rw[HRr.out,hfk];rfl
     have hwm:IntKind.i64.wrap ((q:Int) - 1)=(q:Int) - 1:=IntWalk.i64_in _ ⟨by omega,by omega⟩
     clear hf HRr
     go_wp2_with fail
     go_roundw
     case rel=>
      refine ⟨?_,HBw.out⟩
      by_cases hq00:q=0
      ·exact .inl ⟨by simp[hq00],by unfold Hid;rw[He.out,hq00];rfl⟩
      ·obtain ⟨q',rfl⟩:∃ q',q=q'+1:=⟨q - 1,by omega⟩
       exact .inr ⟨q',by omega,by congr 1;omega,He⟩
     case measure=>simp[intOf]
end Go.Proofs.YtminjjdnmpaaoaaGreatDoor
namespace Go.Proofs.YtminjjdnmpaaoaaGreatDoor
open Go.RowKit Go.Sort
structure But (B:Nat) (w w':World):Prop where
 os:w'.os=w.os
 tape:w'.tape=w.tape
 output:w'.output=w.output
 size:w.heap.size≤w'.heap.size
 block:∀ k,k<w.heap.size→k≠B→w'.heap[k]?=w.heap[k]?
section
variable {B:Nat} {w w' w'':World}
theorem But.refl (B:Nat) (w:World):But B w w:=⟨rfl,rfl,rfl,nR _,fun _ _ _=>rfl⟩
theorem But.trans (h:But B w w') (k:But B w' w''):But B w w'':=
 ⟨k.os.trans h.os,k.tape.trans h.tape,k.output.trans h.output,nT h.size k.size,fun i hi hn=>(k.block i (lL hi h.size) hn).trans (h.block i hi hn)⟩
theorem But.of (h:Below w.heap.size w w'):But B w w':=⟨h.os,h.tape,h.output,h.size,fun k hk _=>h.block k hk⟩
theorem But.below {N:Nat} (h:But B w w') (hB:N≤B) (hN:N≤w.heap.size):Below N w w':=
 ⟨h.os,h.tape,h.output,h.size,fun k hk=>h.block k (lL hk hN) (Nat.ne_of_lt (lL hk hB))⟩
theorem But.then (h:But B w w') (k:Below w'.heap.size w' w''):But B w w'':=h.trans (But.of k)
theorem But.set (w:World) (B o:Nat) (v:Value):But B w (w.setCell ⟨B,o,none⟩ v):=
 ⟨rfl,rfl,rfl,by simp,fun k _ hk=>heap_setCell_other w ⟨B,o,none⟩ k v hk⟩
theorem But.cell (h:But B w w') {b o:Nat} {v:Value} (hc:w.cell? ⟨b,o,none⟩=some v) (hb:b≠B):w'.cell? ⟨b,o,none⟩=some v:=by
 rw[zAN (h.block b (zAU hc) hb) o none];exact hc
theorem But.slv {α:Type} {r:Rp α} {S:Nat→Prop} {l:List α} {v:Value} (h:But B w w') (hs:SlV r w S l v) (hS:∀ b,S b→b≠B):SlV r w' S l v:=SlV.keep hs fun b hb hl=>h.block b hl (hS b hb)
end
section
variable {α:Type} {r:Rp α} {w:World} {S:Nat→Prop}
theorem Elems.set {y:α} {j:Nat} {u:Value} (hj:j<r.size):∀ {l:List α} {xs:List Value} {i:Nat} (hi:i<l.length),Elems r w S l xs→(∀ cs,r.holds w S l[i] cs→r.holds w S y (cs.set j u))→Elems r w S (l.set i y) (xs.set (i * r.size+j) u):=by
 intro l
 induction l with
 | nil=>intro xs i hi;simp at hi
 | cons x l ih=>
   intro xs i hi h hy
   obtain ⟨cs,rest,h1,h2,h3⟩:=h
   have hl:=r.len h2
   subst h1
   cases i with
   | zero=>
     rw[List.set_cons_zero,Nat.zero_mul,Nat.zero_add,List.set_append_left _ _ (by rw[hl];exact hj)]
     exact ⟨cs.set j u,rest,rfl,hy cs h2,h3⟩
   | succ i=>
     rw[List.set_cons_succ,List.set_append_right _ _ (by rw[hl,Nat.succ_mul];omega),hl,show (i+1) * r.size+j - r.size=i * r.size+j from by rw[Nat.succ_mul];omega]
     exact ⟨cs,_,rfl,h2,ih (by simpa using hi) h3 (by simpa using hy)⟩
theorem Own.setE {base g n cap:Nat} {e:TypeId} {l:List α} (h:Own r w base e (.slice (some ⟨g,0,none⟩) n cap) l S) {i j:Nat} (hi:i<l.length) (hj:j<r.size) {y:α} {u:Value} (hy:∀ cs,r.holds w S l[i] cs→r.holds w S y (cs.set j u)) :
  Own r (w.setCell ⟨g,i * r.size+j,none⟩ u) base e (.slice (some ⟨g,0,none⟩) n cap) (l.set i y) S∧w.grownBy (w.setCell ⟨g,i * r.size+j,none⟩ u) (some g):=by
 obtain ⟨h0,xs,h1,h2⟩:=h
 have hn:n=l.length:=by
  rcases h1.2 with ⟨h',_⟩|⟨_,_,_,h',_⟩
  ·simp at h'
  ·simp at h';exact h'.2.1
 subst hn
 obtain ⟨g1,g2⟩:=h1.stored (i * r.size+j) u
 refine ⟨⟨fun b hb=>⟨lL (h0 b hb).1 g2.size,(h0 b hb).2⟩,xs.set (i * r.size+j) u,by rw[List.length_set];exact g1,(Elems.set hj hi h2 hy).mono fun b hb hl=>⟨hb,g2.block b hl (fun e=>(h0 b hb).2 (by rw[Value.ownBlock];exact e.symm))⟩⟩,g2⟩
end
theorem SlV.cutD {α:Type} {r:Rp α} {w:World} {S:Nat→Prop} {l:List α} {A:Option Addr} {n c:Nat} (h:SlV r w S l (.slice A n c)) (k:Nat) (hk:k≤n) :
  SlV r w S (l.drop k) (.slice (if c=k then A else A.map (·.add (k * r.size))) (n - k) (c - k)):=by
 obtain ⟨A',c',h1,h2,h3,h4,h5⟩:=h
 simp only[List.cons.injEq,Value.slice.injEq,and_true] at h1
 obtain ⟨rfl,rfl,rfl⟩:=h1
 refine ⟨_,_,by rw[List.length_drop],by rw[List.length_drop];omega,by omega,fun he=>?_,fun hn=>?_⟩
 ·split at he
  ·have:=h4 he;omega
  ·rw[Option.map_eq_none_iff] at he
   have:=h4 he;omega
 ·rw[List.length_drop] at hn
  obtain ⟨b,o,rfl,hS,hb,hr⟩:=h5 (by omega)
  rw[if_neg (by omega)]
  refine ⟨b,o+k * r.size,by rw[Option.map_some,zEi],hS,hb,fun i x hx=>?_⟩
  rw[List.getElem?_drop] at hx
  obtain ⟨cs,g1,g2⟩:=hr _ x hx
  refine ⟨cs,g1,fun j u hu=>?_⟩
  have:=g2 j u hu
  rw[Nat.add_mul] at this
  rw[show o+k * r.size+i * r.size+j=o+(k * r.size+i * r.size)+j from by omega]
  exact this
theorem zC1 {P:Program} {t e:TypeId} {z:Nat} (ht:P.underlying t=some (.slice (P.elem t))) (he:P.elem t=e) (hs:∀ w,(sizeOf e).run P w=.ok z w) (A:Option Addr) (n c k:Nat) (h:k≤n) (w:World) :
  (Instr.slice t (.slice A n c) (some (.int .i64 (k:Int))) none none).run P w=.ok (.slice (if c=k then A else A.map (·.add (k * z))) (n - k) (c - k)) w:=by
 subst he
 rw[run_slice_l w t A n c ht .i64 (k:Int) (by omega) (by omega),hs]
 simp[Result.andThen,sliced]
theorem zBi {P:Program} {fn:Func} {p q:Tmp} {ty:TypeId} (h:fn.results=#[.cell p ty,.tmp q]) (tmps:Array Value) (w:World) (g:Nat) (t:TypeId) (cs:Array Value) (fr:Nat×Nat) (d:TypeDesc)
  (hp:tmps.getD p undef=.pointer (some ⟨g,0,none⟩)) (hg:w.heap[g]?=some (.cells cs t fr))
  (hu:P.underlying ty=some d) (hd:(match d with|.struct _|.array _ _=>true|_=>false)=true) (hi:(P.info? ty).map (·.size)=some cs.size) :
  (results fn tmps).run P w=.ok (.tuple #[.agg cs,tmps.getD q undef]) w:=by
 have hp':tmps[p]?.getD undef=.pointer (some ⟨g,0,none⟩):=by simpa using hp
 simp[results,h,hp',asAddr,run_loadVar_row w g t ty cs fr d hg hu hd hi]
theorem row3P {W:World} {b:Nat} {x y z:Value} {t:TypeId} (h:W.heap[b]?=some (.cells #[x,y,z] t (0,0))):(W.cell? ⟨b,0,none⟩=some x∧W.cell? ⟨b,1,none⟩=some y∧W.cell? ⟨b,2,none⟩=some z)∧W.frozen? ⟨b,0,none⟩=false∧W.frozen? ⟨b,1,none⟩=false∧W.frozen? ⟨b,2,none⟩=false:=by
 refine ⟨⟨cO _ _ 0 _ _ _ h,cO _ _ 1 _ _ _ h,cO _ _ 2 _ _ _ h⟩,?_,?_,?_⟩<;>simp[World.frozen?,h]
