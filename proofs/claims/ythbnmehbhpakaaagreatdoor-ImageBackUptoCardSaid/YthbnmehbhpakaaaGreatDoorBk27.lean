/- A map of files by their paths: looked up, written, gone through in any order. -/
import Derived.Test.YthbnmehbhpakaaaGreatDoorBk22
import Derived.Test.YthbnmehbhpakaaaGreatDoorBk26
import Derived.Maps.RangeWalk
import Derived.Test.YthbnmehbhpakaaaGreatDoorBk16
import Derived.Test.YthbnmehbhpakaaaGreatDoorBk18
import Derived.Test.YthbnmehbhpakaaaGreatDoorBk06
import Derived.Deep.RegionLaw
import Derived.Test.YthbnmehbhpakaaaGreatDoorAl
set_option linter.all false
set_option maxHeartbeats 8000000
set_option maxRecDepth 100000
namespace Go.Proofs.YthbnmehbhpakaaaGreatDoor
open Go.Rows Go.RowKit Go.Shelf Go.Maps
def zDX:Value→Option (DataW Unit×List MemPlace)
 | .agg cs=>match cs.toList with
   | [.string p,.bool d,.string s]=>some (.agg [.lit (.string p.data.toList),.lit (.bool d),.lit (.string s.data.toList)],[])
   | _=>none
 | _=>none
def flmD (f:File):DataW Unit:=.agg [.lit (.string f.path.data.toList),.lit (.bool f.dir),.lit (.string f.data.data.toList)]
def flmV (f:File):Value:=.agg #[.string f.path,.bool f.dir,.string f.data]
theorem zEX (f:File):zDX (.agg #[.string f.path,.bool f.dir,.string f.data])=some (flmD f,[]):=rfl
theorem zDY {v:Value} {f:File} {ps:List MemPlace} (h:zDX v=some (flmD f,ps)):v=.agg #[.string f.path,.bool f.dir,.string f.data]:=by
 unfold zDX at h
 split at h
 ·rename_i cs
  split at h
  ·rename_i p' d' s' hc
   simp only[flmD,Option.some.injEq,Prod.mk.injEq,DataW.agg.injEq,List.cons.injEq,DataW.lit.injEq,Lit.bool.injEq,Lit.string.injEq,and_true] at h
   obtain ⟨⟨h1,h2,h3⟩,_⟩:=h
   rw[←zAt h1,←h2,←zAt h3]
   congr 1
   exact Array.ext' hc
  ·cases h
 ·cases h
def fileZ:File:=⟨⟨#[]⟩,false,⟨#[]⟩⟩
theorem zNA (w:World):(zeroValue 45).run Tryz.prog w=.ok (.agg #[.string ⟨#[]⟩,.bool false,.string ⟨#[]⟩]) w:=by kernel_rfl
def zBK (w:World) (B:Nat) (l:List File):Prop:=
 ∃ (n:Nat) (D:DataW Unit),w.ownsMap Tryz.prog 9 zDX B n D∧n≤l.length∧IsMap D∧∀ p:ByteArray,Maps.has D (.string p.data.toList)=(zAK l p).isSome ∧
   ∀ zd,D.atKey (.string p.data.toList) zd=match zAK l p with|none=>zd|some f=>flmD f
theorem zBK.made (w:World):zBK (w.alloc (.map #[] 0)) w.heap.size []:=
 ⟨0,.map [],World.ownsMap_made _ _ _ _,nR _,isMap_empty,fun p=>⟨rfl,fun zd=>rfl⟩⟩
theorem zBK.kept {w w':World} {B:Nat} {l:List File} {row:Option Nat} (h:zBK w B l) (hg:w.grownBy w' row) (hne:some B≠row):zBK w' B l:=by
 obtain ⟨n,D,h1,h2⟩:=h
 exact ⟨n,D,h1.kept hg hne,h2⟩
theorem zBK.keep {w w':World} {B:Nat} {l:List File} (h:zBK w B l) (hb:Below w.heap.size w w'):zBK w' B l:=
 h.kept (row:=none) ⟨hb.os,hb.tape,hb.output,hb.size,fun k hk _=>hb.block k hk⟩ (by simp)
def zAh (l:List File) (p:ByteArray):File:=(zAK l p).getD fileZ
theorem zBK.look {W:World} {B:Nat} {l:List File} {p:ByteArray} (h:zBK W B l) (hp:p.size≤maxLen) :
  (Instr.lookup 81 (.map (some B)) (.string p) true).run Tryz.prog W=.ok (.tuple #[.agg #[.string (zAh l p).path,.bool (zAh l p).dir,.string (zAh l p).data],.bool (zAK l p).isSome]) W:=by
 obtain ⟨n,D,h1,h2,h3,h4⟩:=h
 have hkey:=Go.WideMaps.keyOf_string_mk (P:=Tryz.prog) Tryz.underlying9 hp
 obtain ⟨v,ps,r1,r2⟩:=h1.look_ok zB4 Tryz.underlying81 (zNA W) (zEX fileZ) hkey
 obtain ⟨q1,q2⟩:=h4 p
 rw[q1] at r1
 rw[q2] at r2
 unfold zAh
 cases ht:zAK l p with
 | none=>
   rw[ht] at r1 r2
   rw[zDY r2] at r1
   exact r1
 | some f=>
   rw[ht] at r1 r2
   rw[zDY r2] at r1
   exact r1
theorem zBK.put {W:World} {B:Nat} {l:List File} {x:File} (h:zBK W B l) (hp:x.path.size≤maxLen) (hl:l.length≤1000000000) (hno:findF l x.path=none) :
  ∃ w',(Instr.mapUpdate 81 (.map (some B)) (.string x.path) (.agg #[.string x.path,.bool x.dir,.string x.data])).run Tryz.prog W=.ok () w'∧zBK w' B (l++[x])∧W.grownBy w' (some B):=by
 obtain ⟨n,D,h1,h2,h3,h4⟩:=h
 have hkey:=Go.WideMaps.keyOf_string_mk (P:=Tryz.prog) Tryz.underlying9 hp
 obtain ⟨w',r1,r2,r3⟩:=h1.store zB4 Tryz.underlying81 (by unfold maxLen;omega) hkey (zEX x)
 refine ⟨w',r1,⟨n+1,_,r2,by simp;omega,h3.put _ _,fun p=>?_⟩,r3.grown⟩
 rw[zGZ hno]
 by_cases e:x.path=p
 ·subst e
  rw[if_pos rfl]
  exact ⟨has_put_same h3 (by trivial) _,fun zd=>atKey_put_same h3 (by trivial) _ _⟩
 ·rw[if_neg e]
  have hne:(Lit.string p.data.toList)≠.string x.path.data.toList:=fun he=>e (zAt (by simpa using he.symm))
  refine ⟨(has_put_other hne _).trans (h4 p).1,fun zd=>?_⟩
  rw[atKey_put_other hne]
  exact (h4 p).2 zd
def keyL (f:File):Lit:=.string f.path.data.toList
def doneF (left:Lit→Bool) (l:List File):List File:=l.filter fun f=>!left (keyL f)
theorem zNM {f g:File} (h:keyL f=keyL g):f.path=g.path:=zAt (by simpa [keyL] using h)
theorem zLs {left:Lit→Bool} {l:List File} (h:∀ f∈l,left (keyL f)=true):doneF left l=[]:=by
 unfold doneF
 rw[List.filter_eq_nil_iff]
 intro f hf
 rw[h f hf]
 decide
theorem zPR {left:Lit→Bool} (h:∀ k,left k=false) (l:List File):doneF left l=l:=by
 unfold doneF
 rw[List.filter_eq_self]
 intro f _
 rw[h]
 rfl
theorem zQd (f:File):(keyL f).sameKey (keyL f)=true:=by
 show (f.path.data.toList==f.path.data.toList)=true
 rw[beq_iff_eq]
theorem zHS {left:Lit→Bool} {x:File} {l:List File} (h:left (keyL x)=true):doneF left (x::l)=doneF left l:=by
 unfold doneF
 rw[List.filter_cons,h]
 rfl
theorem zJj {left:Lit→Bool} {x:File} {l:List File} (h:left (keyL x)=false):doneF left (x::l)=x::doneF left l:=by
 unfold doneF
 rw[List.filter_cons,h]
 rfl
theorem zFk {left:Lit→Bool} {f:File} (ht:left (keyL f)=true):∀ {l:List File},(zAm l).Nodup→f∈l→(doneF (fun z=>left z&&!z.sameKey (keyL f)) l).Perm (f::doneF left l)
 | [],_,hf=>by cases hf
 | x::l,hn,hf=>by
   have hn':(x.path::zAm l).Nodup:=hn
   rw[List.nodup_cons] at hn'
   by_cases e:x=f
   ·subst e
    have hrest:doneF (fun z=>left z&&!z.sameKey (keyL x)) l=doneF left l:=List.filter_congr fun g hg=>by
     have hne:keyL g≠keyL x:=fun e=>hn'.1 (by rw[←zNM e];exact List.mem_map.2 ⟨g,hg,rfl⟩)
     show (!(left (keyL g)&&!(keyL g).sameKey (keyL x)))=!left (keyL g)
     rw[sameKey_ne hne]
     simp
    have h1:(fun z:Lit=>left z&&!z.sameKey (keyL x)) (keyL x)=false:=by
     show (left (keyL x)&&!(keyL x).sameKey (keyL x))=false
     rw[zQd]
     simp
    rw[zJj h1,zHS ht,hrest]
   ·have hf':f∈l:=by
     rcases List.mem_cons.1 hf with h|h
     ·exact absurd h.symm e
     ·exact h
    have hne:keyL x≠keyL f:=fun e=>hn'.1 (by rw[zNM e];exact List.mem_map.2 ⟨f,hf',rfl⟩)
    have ih:=zFk ht hn'.2 hf'
    have h1:(fun z:Lit=>left z&&!z.sameKey (keyL f)) (keyL x)=left (keyL x):=by
     show (left (keyL x)&&!(keyL x).sameKey (keyL f))=_
     rw[sameKey_ne hne]
     simp
    by_cases hl:left (keyL x)=true
    ·rw[zHS (h1.trans hl),zHS hl]
     exact ih
    ·rw[Bool.not_eq_true] at hl
     rw[zJj (h1.trans hl),zJj hl]
     exact (List.Perm.cons x ih).trans (List.Perm.swap f x _)
def Going (w:World) (B r n:Nat) (D:DataW Unit) (l:List File) (left:Lit→Bool) (cnt:Nat):Prop:=
 w.ranges Tryz.prog 9 zDX B r n D left cnt∧(∀ k,left k=true→Maps.has D k=true)∧∀ p:ByteArray,Maps.has D (.string p.data.toList)=(zAK l p).isSome ∧
  ∀ zd,D.atKey (.string p.data.toList) zd=match zAK l p with|none=>zd|some f=>flmD f
theorem Going.kept {w w':World} {B r n:Nat} {D:DataW Unit} {l:List File} {left:Lit→Bool} {cnt:Nat} {row:Option Nat} (h:Going w B r n D l left cnt) (hg:w.grownBy w' row) (hb:some B≠row) (hr:some r≠row):Going w' B r n D l left cnt:=
 ⟨h.1.kept hg hb hr,h.2⟩
theorem Going.keep {w w':World} {B r n:Nat} {D:DataW Unit} {l:List File} {left:Lit→Bool} {cnt:Nat} (h:Going w B r n D l left cnt) (hb:Below w.heap.size w w'):Going w' B r n D l left cnt:=
 h.kept (row:=none) ⟨hb.os,hb.tape,hb.output,hb.size,fun k hk _=>hb.block k hk⟩ (by simp) (by simp)
theorem Going.first {w:World} {B r n:Nat} {D:DataW Unit} {l:List File} {left:Lit→Bool} {cnt:Nat} (h:Going w B r n D l left cnt) (hl:left=Maps.has D) (hn:(zAm l).Nodup):doneF left l=[]:=
 zLs fun f hf=>by
  rw[hl]
  have:=(h.2.2 f.path).1
  rw[show keyL f=Lit.string f.path.data.toList from rfl,this,(zAw hn).2 ⟨hf,rfl⟩]
  rfl
theorem zS1 {v:Value} {kl:Lit} (h:keyOf Tryz.prog 9 v=some kl):∃ s,v=.string s:=by
 cases v<;>simp[keyOf,Tryz.underlying9,mapKey] at h
 exact ⟨_,rfl⟩
theorem zRy {s:ByteArray} {kl:Lit} (h:keyOf Tryz.prog 9 (.string s)=some kl):kl=.string s.data.toList:=by
 simp[keyOf,Tryz.underlying9,mapKey] at h
 exact h.2.symm
theorem zSO {v:Value} {y:DataW Unit×List MemPlace} (h:zDX v=some y):∃ f:File,v=flmV f:=by
 unfold zDX at h
 split at h
 ·rename_i cs
  split at h
  ·rename_i p d s hc
   exact ⟨⟨p,d,s⟩,by unfold flmV;rw[show cs=#[.string p,.bool d,.string s] from Array.ext' hc]⟩
  ·cases h
 ·cases h
theorem zRZ {f g:File} (h:flmD f=flmD g):f=g:=by
 obtain ⟨a,b,c⟩:=f
 obtain ⟨x,y,z⟩:=g
 simp only[flmD,DataW.agg.injEq,List.cons.injEq,DataW.lit.injEq,Lit.bool.injEq,Lit.string.injEq,and_true] at h
 obtain ⟨h1,h2,h3⟩:=h
 rw[zAt h1,h2,zAt h3]
theorem zFu {ops:Array Oper} {rest:List Oper} {o:Oper} {a:Act} {w:World} {Q:Exit→Act→World→Prop} (hg:o.guard=none) (it:Operand) (hop:o.op=Op.next it false) {B r n:Nat} {D:DataW Unit} {l:List File} {left:Lit→Bool} {cnt:Nat}
  (hit:a.eval it=.pointer (some ⟨r,0,none⟩)) (h:Going w B r n D l left cnt) (hn:(zAm l).Nodup)
  (hDone:doneF left l=l→wpList Tryz.prog ops Q rest (a.put o.dst (.tuple #[.bool false])) w)
  (hMore:∀ (f:File) (w':World) (cnt':Nat),f∈l→left (keyL f)=true→Going w' B r n D l (fun z=>left z&&!z.sameKey (keyL f)) cnt'→cnt'<cnt→w.grownBy w' (some r)→w'.heap.size=w.heap.size →
    (Instr.entry (.pointer (some ⟨r,0,none⟩))).run Tryz.prog w'=.ok (.tuple #[.string f.path,.agg #[.string f.path,.bool f.dir,.string f.data]]) w'→wpList Tryz.prog ops Q rest (a.put o.dst (.tuple #[.bool true,.string f.path,.agg #[.string f.path,.bool f.dir,.string f.data]])) w') :
  wpList Tryz.prog ops Q (o::rest) a w:=by
 obtain ⟨h1,h2,h3⟩:=h
 refine wpList_next_ranges w hg it hop 9 zB4 zDX Value.string flmV (fun v kl hv=>zS1 hv) (fun v y hv=>zSO hv) B r n D left cnt hit h1 (fun _ hl=>hDone (zPR hl l)) ?_
 intro x c kl y w' cnt' hk hl hy hat hr hlt hgr hsz hen
 obtain rfl:=zRy hk
 have hy':y=(flmD c,[]):=by have:=zEX c;rw[show flmV c=.agg #[.string c.path,.bool c.dir,.string c.data] from rfl,this] at hy;exact (Option.some.inj hy).symm
 subst hy'
 obtain ⟨q1,q2⟩:=h3 x
 rw[h2 _ hl] at q1
 cases ht:zAK l x with
 | none=>rw[ht] at q1;cases q1
 | some f=>
   have e:flmD c=flmD f:=by
    have e1:=hat (.agg [])
    have e2:=q2 (.agg [])
    rw[ht] at e2
    exact e1.symm.trans e2
   obtain rfl:=zRZ e
   obtain ⟨hm,hp⟩:=(zAw hn).1 ht
   subst hp
   refine hMore c w' cnt' hm hl ⟨hr,fun k hk=>?_,h3⟩ hlt hgr hsz hen
   rw[Bool.and_eq_true] at hk
   exact h2 k hk.1
theorem zE8 {ops:Array Oper} {rest:List Oper} {o:Oper} {a:Act} {w:World} {Q:Exit→Act→World→Prop} (hg:o.guard=none) (m:Operand) (hop:o.op=Op.range 81 m) {B:Nat} {l:List File} (hm:a.eval m=.map (some B)) (h:zBK w B l) (hn:(zAm l).Nodup)
  (hK:∀ w' n D left cnt,Going w' B w.heap.size n D l left cnt→doneF left l=[]→w.grownBy w' none→w'.heap.size=w.heap.size+1→wpList Tryz.prog ops Q rest (a.put o.dst (.pointer (some ⟨w.heap.size,0,none⟩))) w') :
  wpList Tryz.prog ops Q (o::rest) a w:=by
 obtain ⟨n,D,h1,h2,h3,h4⟩:=h
 refine wpList_range_own w hg m 81 hop 9 45 zB4 Tryz.underlying81 zDX B n D hm h1 ?_
 intro w' r1 r2 r3
 have hG:Going w' B w.heap.size n D l (Maps.has D) (Maps.size D):=⟨r1,fun _ h=>h,h4⟩
 exact hK w' n D _ _ hG (hG.first rfl hn) r2 r3
theorem zK7 {left:Lit→Bool} {f:File} {l:List File} {acc:List Dir} (hn:(zAm l).Nodup) (hf:f∈l) (ht:left (keyL f)=true) (hp:acc.Perm (dirsF (doneF left l))) (hk:zA7 (doneF left l)=true) (h:isPkg f=false) :
  acc.Perm (dirsF (doneF (fun z=>left z&&!z.sameKey (keyL f)) l))∧zA7 (doneF (fun z=>left z&&!z.sameKey (keyL f)) l)=true:=by
 obtain ⟨p1,p2⟩:=zE5 (zFk ht hn hf)
 obtain ⟨s1,s2⟩:=zCc h (doneF left l)
 rw[s1] at p1
 rw[s2] at p2
 exact ⟨hp.trans p1.symm,p2.trans hk⟩
theorem zO8 {left:Lit→Bool} {f:File} {l:List File} {acc:List Dir} (hn:(zAm l).Nodup) (hf:f∈l) (ht:left (keyL f)=true) (hp:acc.Perm (dirsF (doneF left l))) (hk:zA7 (doneF left l)=true) (h:isPkg f=true) (h2:okPkg f=true) :
  (acc++[dirF f]).Perm (dirsF (doneF (fun z=>left z&&!z.sameKey (keyL f)) l))∧zA7 (doneF (fun z=>left z&&!z.sameKey (keyL f)) l)=true:=by
 obtain ⟨p1,p2⟩:=zE5 (zFk ht hn hf)
 obtain ⟨s1,s2⟩:=zNF h h2 (doneF left l)
 rw[s1] at p1
 rw[s2] at p2
 exact ⟨(List.perm_append_singleton _ _).trans ((List.Perm.cons _ hp).trans p1.symm),p2.trans hk⟩
theorem zI9 {f:File} {l:List File} (hf:f∈l) (h1:isPkg f=true) (h2:okPkg f=false):zA7 l=false:=by
 cases hd:zA7 l with
 | false=>rfl
 | true=>
   unfold zA7 at hd
   have:=List.all_eq_true.1 hd f hf
   rw[h1,h2] at this
   cases this
end Go.Proofs.YthbnmehbhpakaaaGreatDoor
namespace Go.Proofs.YthbnmehbhpakaaaGreatDoor
open Go.Rows Go.RowKit Go.Shelf Go.Sort
theorem zHq (t:ByteArray) (w:World) (hv:Vok w) (ht:t.size≤4611686018427387904) :
  Calls Tryz.prog 100 #[.string t] w fun e w'=>∃ u,e=.returned (.tuple #[u,.int .i64 (packQ t).2])∧PackO w' w.heap.size (packQ t).1 u∧Below w.heap.size w w':=by
 obtain ⟨L,en,hQ⟩:∃ L en,scanQ 4096 t=(L,en):=⟨_,_,rfl⟩
 have hbd:=zE3 (most:=4096) (t:=t)
 rw[hQ] at hbd
 obtain ⟨hL1,hL2⟩:=hbd
 simp only at hL1 hL2
 have Hsc:Hid (∀ W,Calls Tryz.prog 91 #[.string t,.int .i64 4096] W fun e w'=>∃ v,(∃ k:Int,e=.returned (.tuple #[v,.int .i64 en,.int .i64 k]))∧SlV (zAL rStr) w' (fun b=>W.heap.size≤b) L v∧Below W.heap.size W w'):=fun W=>by
  have:=zCf t 4096 W (by decide) ht
  rw[hQ] at this
  exact this
 have K0:Hid (en≠0→packQ t=(packZ,en)):=fun h=>zPx hQ h
 have K1:Hid (en=0→(∀ a b c r,L≠[a,b,c]::r)→packQ t=(packZ,22)):=fun h h2=>zOd (by rw[←h];exact hQ) h2
 have K2:=cH (fun (h:en=0) a nm vs rest (hl:L=[a,nm,vs]::rest)=>zOE (t:=t) (a:=a) (nm:=nm) (vs:=vs) (rest:=rest) (by rw[←h,←hl];exact hQ))
 have Hv:=cH hv
 have HL1:=cH hL1
 have HL2:=cH hL2
 clear hv hL1 hL2 hQ
 generalize packQ t=R at *
 go_enter Tryz.func100,Tryz.ntmps100
 go_wp2_with fail
 obtain ⟨w0,hw0⟩:∃ w0,w0=w.alloc (.cells #[.string ⟨#[]⟩,.int .i64 0,.int .i64 0,.int .i64 0,.slice none 0 0,.slice none 0 0,.slice none 0 0] 57):=⟨_,rfl⟩
 have hr0:w0.heap[w.heap.size]?=some (.cells #[.string ⟨#[]⟩,.int .i64 0,.int .i64 0,.int .i64 0,.slice none 0 0,.slice none 0 0,.slice none 0 0] 57 (0,0)):=by rw[hw0];exact heap_alloc_new w _
 have HB0:Hid (Below w.heap.size w w0):=by unfold Hid;rw[hw0];exact bal (bR _ _) _
 have hz0:w.heap.size<w0.heap.size:=(aS.1 hr0).1
 rw[←hw0]
 clear hw0
 have Hr0:=cH hr0
 have Hz0:=cH hz0
 clear hr0 hz0
 refine (Hsc.out w0).mono ?_
 rintro e w1 ⟨vL,⟨kk,rfl⟩,hL,hb1⟩
 have Hr1:=cH ((hb1.block _ Hz0.out).trans Hr0.out)
 have HB1:=cH (bot HB0.out hb1)
 have hz1:w.heap.size<w1.heap.size:=lL Hz0.out hb1.size
 have hL':=hL.more (S':=fun b=>b<w1.heap.size) fun b _ h=>h
 obtain ⟨AL,cL,rfl,hcl,hcm⟩:=hL'.val
 obtain ⟨n,hn⟩:∃ n,n=L.length:=⟨_,rfl⟩
 have hcl2:n≤cL:=by rw[hn];exact hcl
 unfold maxLen at hcm
 have hn7:n≤4097:=by rw[hn];exact HL1.out
 rw[←hn] at hL' ⊢
 clear hL hb1 HB0 Hr0 Hz0 Hsc hcl
 have HL:=cH hL'
 have Hn:=cH hn
 clear hL' hn
 by_cases he:en=0
 case neg=>
  have hbe:(en != 0)=true:=by simpa using he
  have hq:=K0.out he
  subst hq
  obtain ⟨⟨a0,a1,a2,a3,a4,a5,a6⟩,f0,f1,f2,f3,f4,f5,f6⟩:=row7 Hr1.out
  clear he K0 K1 K2
  go_wp2_with fail
  refine zAC rfl rfl rfl rfl (zAa Hr1.out _ _ _ _ _ _ _) Tryz.underlying57 rfl (by kernel_rfl) ⟨_,rfl,PackO.zero _ _,zAV HB1.out (nR _) _ _ _ _ _ _ _⟩
 have K1':=cH (K1.out he)
 have K2':=cH (K2.out he)
 clear K0 K1 K2
 subst he
 cases L with
 | nil=>
   have hq:=K1'.out (by intro a b c r e;cases e)
   subst hq
   have hn0:n=0:=Hn.out
   subst hn0
   obtain ⟨⟨a0,a1,a2,a3,a4,a5,a6⟩,f0,f1,f2,f3,f4,f5,f6⟩:=row7 Hr1.out
   clear K1' K2'
   go_wp2_with fail
   refine zAC rfl rfl rfl rfl (zAa Hr1.out _ _ _ _ _ _ _) Tryz.underlying57 rfl (by kernel_rfl) ⟨_,rfl,PackO.zero _ _,zAV HB1.out (nR _) _ _ _ _ _ _ _⟩
 | cons ws0 rest=>
 have hnr:n=rest.length+1:=Hn.out
 obtain ⟨b0,o0,rfl,_,hb0⟩:=HL.out.at (by simp)
 obtain ⟨A0,cc0,c0,hs0⟩:=HL.out.row (i:=0) (x:=ws0) rfl
 rw[Nat.add_zero] at c0
 have Hs0:=cH hs0
 clear hs0
 obtain ⟨m,hm⟩:∃ m,m=ws0.length:=⟨_,rfl⟩
 rw[←hm] at c0 Hs0
 have hn0:((n:Int)==0)=false:=by rw[beq_eq_false_iff_ne];omega
 have hn1:0<n:=by omega
 have hnI:(0:Int)<(n:Int):=by omega
 by_cases hm3:m=3
 case neg=>
  have hq:=K1'.out (by rintro a b c r e;cases e;simp at hm;omega)
  subst hq
  have hbe:((m:Int) != 3)=true:=by rw[bne_iff_ne];omega
  obtain ⟨⟨a0,a1,a2,a3,a4,a5,a6⟩,f0,f1,f2,f3,f4,f5,f6⟩:=row7 Hr1.out
  clear K1' K2' hnr hm hm3
  go_wp2_with fail
  refine zAC rfl rfl rfl rfl (zAa Hr1.out _ _ _ _ _ _ _) Tryz.underlying57 rfl (by kernel_rfl) ⟨_,rfl,PackO.zero _ _,zAV HB1.out (nR _) _ _ _ _ _ _ _⟩
 obtain ⟨a,nm,vs,rfl⟩:∃ a nm vs,ws0=[a,nm,vs]:=by
  match ws0,hm with
  | [],h=>simp at h;omega
  | [_],h=>simp at h;omega
  | [_,_],h=>simp at h;omega
  | [a,nm,vs],_=>exact ⟨a,nm,vs,rfl⟩
  | _::_::_::_::_,h=>simp at h;omega
 subst hm3
 clear hm
 obtain ⟨b1,o1,rfl,_,hb1⟩:=Hs0.out.at (by simp)
 obtain ⟨d0,_⟩:=Hs0.out.str (i:=0) (x:=a) rfl
 obtain ⟨d1,hnz⟩:=Hs0.out.str (i:=1) (x:=nm) rfl
 obtain ⟨d2,hvz⟩:=Hs0.out.str (i:=2) (x:=vs) rfl
 rw[Nat.add_zero] at d0
 obtain ⟨K22,K2r⟩:=K2'.out a nm vs rest rfl
 have K22':=cH K22
 have K2r':=cH K2r
 have hvs1:vs.size≤1000000:=by
  have:=(HL2.out [a,nm,vs] (by simp)).2.2
  have h1:=zBv a [nm,vs]
  have h2:=zBv nm [vs]
  have h3:(joinS [vs]).size=vs.size:=by
   rw[zAJ,zAJ];unfold joinS;simp[mkB,Lib.join,Lib.joinTail]
  omega
 clear K2' K1' K22 K2r Hs0
 by_cases ha:a=packageW
 case neg=>
  have hq:=K22'.out ha
  subst hq
  have hbe:(a.toList==[112,97,99,107,97,103,101])=false:=by
   rw[beq_eq_false_iff_ne]
   exact fun e=>ha (zAt (by rw[←Go.ByteArray.toList_eq,e];rfl))
  obtain ⟨⟨a0,a1,a2,a3,a4,a5,a6⟩,f0,f1,f2,f3,f4,f5,f6⟩:=row7 Hr1.out
  clear K22' K2r' ha hnr
  go_wp2_with fail
  refine zAC rfl rfl rfl rfl (zAa Hr1.out _ _ _ _ _ _ _) Tryz.underlying57 rfl (by kernel_rfl) ⟨_,rfl,PackO.zero _ _,zAV HB1.out (nR _) _ _ _ _ _ _ _⟩
 have hbe:(a.toList==[112,97,99,107,97,103,101])=true:=by rw[ha];decide +kernel
 obtain ⟨K23,K2v⟩:=K2r'.out ha
 have K23':=cH K23
 have K2v':=cH K2v
 have HN:Hid (∀ W,Calls Tryz.prog 61 #[.string nm] W fun e w'=>e=.returned (.bool (nameB nm))∧Below W.heap.size W w'):=fun W=>zA2 nm hnz W
 have Hnz:=cH hnz
 have HLr:=cH (HL.out.cut 1 hn1)
 rw[List.drop_one,List.tail_cons] at HLr
 have Hb0:=cH hb0;have Hb1:=cH hb1
 have Hnr:=cH hnr
 clear K2r' K22' K23 K2v ha hnz HL Hn hb0 hb1 hnr
 go_wp2_with fail
 obtain ⟨w2,hw2⟩:∃ w2,w2=w1.alloc (.cells #[.string nm,.int .i64 0,.int .i64 0,.int .i64 0,.slice none 0 0,.slice none 0 0,.slice none 0 0] 57):=⟨_,rfl⟩
 have hP2:zAs w1.heap.size [.string nm,.int .i64 0,.int .i64 0,.int .i64 0] 57 3 w2 (fun _=>.slice none 0 0):=by rw[hw2];exact heap_alloc_new w1 _
 have HB2:Hid (Below w1.heap.size w1 w2):=by unfold Hid;rw[hw2];exact bal (bR _ _) _
 have hz2:w1.heap.size<w2.heap.size:=hP2.lt
 have p0:w2.cell? ⟨w1.heap.size,0,none⟩=some (.string nm):=cO _ _ 0 _ _ _ hP2
 rw[←hw2]
 clear hw2
 have HP2:=cH hP2
 clear hP2
 refine (HN.out w2).mono ?_
 rintro e w3 ⟨rfl,hb3⟩
 have HP3:=cH (HP2.out.keep hb3)
 have HB3:=cH (bot HB2.out hb3)
 have Hr3:=cH ((HB3.out.block _ hz1).trans Hr1.out)
 have hz3:w1.heap.size<w3.heap.size:=HP3.out.lt
 have c03:=zAA HB3.out c0 Hb0.out
 have d23:=zAA HB3.out d2 Hb1.out
 clear hb3 HP2 HB2 hz2 p0 HN
 cases hnb:nameB nm with
 | false=>
   have hq:=K23'.out hnb
   subst hq
   obtain ⟨⟨a0,a1,a2,a3,a4,a5,a6⟩,f0,f1,f2,f3,f4,f5,f6⟩:=row7 Hr3.out
   clear K23' K2v' hnb
   go_wp2_with fail
   refine zAC rfl rfl rfl rfl (zAa Hr3.out _ _ _ _ _ _ _) Tryz.underlying57 rfl (by kernel_rfl) ⟨_,rfl,PackO.zero _ _,zAV (bot HB1.out HB3.out) (nR _) _ _ _ _ _ _ _⟩
 | true=>
 obtain ⟨K20,K2L⟩:=K2v'.out hnb
 have K20':=cH K20
 have K2L':=cH K2L
 clear K23' K2v' K20 K2L hnb c0 d0 d1 d2 hbe
 cases hvp:zAS vs with
 | none=>
   have hq:=K20'.out hvp
   subst hq
   have HV:Hid (∀ W,Vok W→Calls Tryz.prog 97 #[.string vs] W fun e w'=>e=.returned (.tuple #[.agg #[.int .i64 0,.int .i64 0,.int .i64 0],.bool false])∧Below W.heap.size W w'):=fun W hW=>by
    have:=zDR vs W hW hvs1
    rw[hvp] at this
    exact this
   clear K20' K2L' hvp
   go_wp2_with fail
   refine (HV.out _ (Hv.out.below (bot HB1.out HB3.out))).mono ?_
   rintro e w4 ⟨rfl,hb4⟩
   go_upto_region 10 with (fail)
   obtain ⟨w5,hw5⟩:∃ w5,w5=w4.alloc (.cells #[.int .i64 0,.int .i64 0,.int .i64 0] 55):=⟨_,rfl⟩
   have HB5:Hid (Below w3.heap.size w3 w5):=by unfold Hid;rw[hw5];exact bal hb4 _
   rw[←hw5]
   have hr5:=(HB5.out.block _ (Nat.lt_trans hz1 hz3)).trans Hr3.out
   obtain ⟨⟨a0,a1,a2,a3,a4,a5,a6⟩,f0,f1,f2,f3,f4,f5,f6⟩:=row7 hr5
   have Hr5:=cH hr5
   clear hw5 hb4 hr5
   go_wp2_with fail
   refine zAC rfl rfl rfl rfl (zAa Hr5.out _ _ _ _ _ _ _) Tryz.underlying57 rfl (by kernel_rfl) ⟨_,rfl,PackO.zero _ _,zAV (bot (bot HB1.out HB3.out) HB5.out) (nR _) _ _ _ _ _ _ _⟩
 | some ver=>
 obtain ⟨K2e,K2l⟩:=K2L'.out ver hvp |> fun h=>(⟨h.1,h.2⟩:_∧_)
 have K2e':=cH K2e
 have K2l':=cH K2l
 have HV:Hid (∀ W,Vok W→Calls Tryz.prog 97 #[.string vs] W fun e w'=>e=.returned (.tuple #[.agg #[.int .i64 ver.major,.int .i64 ver.minor,.int .i64 ver.patch],.bool true])∧Below W.heap.size W w'):=fun W hW=>by
  have:=zDR vs W hW hvs1
  rw[hvp] at this
  exact this
 clear K20' K2L' hvp K2e K2l
 go_wp2_with fail
 refine (HV.out _ (Hv.out.below (bot HB1.out HB3.out))).mono ?_
 rintro e w4 ⟨rfl,hb4⟩
 go_upto_region 10 with (fail)
 obtain ⟨x1,x2,x3⟩:=ver
 simp only at K2e' K2l' ⊢
 obtain ⟨w5,hw5⟩:∃ w5,w5=w4.alloc (.cells #[.int .i64 x1,.int .i64 x2,.int .i64 x3] 55):=⟨_,rfl⟩
 have HB5:Hid (Below w3.heap.size w3 w5):=by unfold Hid;rw[hw5];exact bal hb4 _
 have hv5:w5.heap[w4.heap.size]?=some (.cells #[.int .i64 x1,.int .i64 x2,.int .i64 x3] 55 (0,0)):=by rw[hw5];exact heap_alloc_new w4 _
 rw[←hw5]
 have HP5:=cH (HP3.out.keep HB5.out)
 have Hr5:=cH ((HB5.out.block _ (Nat.lt_trans hz1 hz3)).trans Hr3.out)
 obtain ⟨⟨v0,v1,v2⟩,_⟩:=row3 hv5
 have p1:w5.cell? ⟨w1.heap.size,1,none⟩=some (.int .i64 0):=cO _ _ 1 _ _ _ HP5.out
 have p2:w5.cell? ⟨w1.heap.size,2,none⟩=some (.int .i64 0):=cO _ _ 2 _ _ _ HP5.out
 have p3:w5.cell? ⟨w1.heap.size,3,none⟩=some (.int .i64 0):=cO _ _ 3 _ _ _ HP5.out
 have q1:=HP5.out.free 1
 have q2:=HP5.out.free 2
 have q3:=HP5.out.free 3
 clear hw5 hb4 hv5 HV
 go_upto_region 13 with (fail)
 obtain ⟨w6,hw6⟩:∃ w6,w6=((w5.setCell ⟨w1.heap.size,1,none⟩ (.int .i64 x1)).setCell ⟨w1.heap.size,2,none⟩ (.int .i64 x2)).setCell ⟨w1.heap.size,3,none⟩ (.int .i64 x3):=⟨_,rfl⟩
 have HP6:Hid (zAs w1.heap.size [.string nm,.int .i64 x1,.int .i64 x2,.int .i64 x3] 57 3 w6 (fun _=>.slice none 0 0)):=by
  unfold Hid
  rw[hw6]
  exact ((HP5.out.head (i:=1) (by simp) (.int .i64 x1)).head (i:=2) (by simp) (.int .i64 x2)).head (i:=3) (by simp) (.int .i64 x3)
 have HB6:Hid (Below w1.heap.size w1 w6):=by
  unfold Hid
  rw[hw6]
  exact (((bot HB3.out HB5.out).setCell (nR _) _).setCell (nR _) _).setCell (nR _) _
 rw[←hw6]
 have Hr6:=cH ((HB6.out.block _ hz1).trans Hr1.out)
 have hz6:w1.heap.size<w6.heap.size:=HP6.out.lt
 clear hw6 HP5 Hr5 HB5 HB3 HP3 v0 v1 v2 p1 p2 p3 q1 q2 q3 Hr3 Hr1 hz3
 have hsl:∀ W,(Instr.slice 145 (.slice (some ⟨b0,o0,none⟩) n cL) (some (.int .i64 1)) none none).run Tryz.prog W=.ok (.slice (if cL=1 then some ⟨b0,o0,none⟩ else Option.map (fun x:Addr=>x.add (1 * 1)) (some (⟨b0,o0,none⟩:Addr))) (n - 1) (cL - 1)) W:=fun W=>
  zDc (P:=Tryz.prog) (t:=145) (e:=53) (z:=1) Tryz.underlying145 (by kernel_rfl) (fun _=>by kernel_rfl) (some ⟨b0,o0,none⟩) n cL 1 hn1 W
 obtain ⟨X,hX⟩:∃ X,X=(if cL=1 then some (⟨b0,o0,none⟩:Addr) else Option.map (fun x:Addr=>x.add (1 * 1)) (some (⟨b0,o0,none⟩:Addr))):=⟨_,rfl⟩
 have HLq:Hid (SlV (zAL rStr) w1 (fun b=>b<w1.heap.size) rest (.slice X (n - 1) (cL - 1))):=by unfold Hid;rw[hX];exact HLr.out
 rw[←hX] at hsl
 obtain ⟨ln,hln⟩:∃ ln,ln=n - 1:=⟨_,rfl⟩
 rw[←hln] at hsl HLq
 have Hln:Hid (rest.length=ln):=by have:=Hnr.out;unfold Hid;omega
 have hln7:ln≤4097:=by omega
 clear hX hln HLr
 go_upto_region 16 with (fail)
 obtain ⟨w8,hw8⟩:∃ w8,w8=(w6.alloc (.cells #[.string ⟨#[110,101,101,100,115]⟩,.string ⟨#[98,101,115,105,100,101]⟩,.string ⟨#[108,105,107,101,115]⟩] 9)).alloc (.cells #[.pointer (some ⟨w1.heap.size,4,none⟩),.pointer (some ⟨w1.heap.size,5,none⟩),.pointer (some ⟨w1.heap.size,6,none⟩)] 152):=⟨_,rfl⟩
 have hWB:w8.heap[w6.heap.size]?=some (.cells #[.string ⟨#[110,101,101,100,115]⟩,.string ⟨#[98,101,115,105,100,101]⟩,.string ⟨#[108,105,107,101,115]⟩] 9 (0,0)):=by
  rw[hw8]
  exact (Below.heap_alloc _ _ _ (by simp)).trans (heap_alloc_new w6 _)
 have hLB:w8.heap[w6.heap.size+1]?=some (.cells #[.pointer (some ⟨w1.heap.size,4,none⟩),.pointer (some ⟨w1.heap.size,5,none⟩),.pointer (some ⟨w1.heap.size,6,none⟩)] 152 (0,0)):=by
  rw[hw8]
  have:=heap_alloc_new (w6.alloc (.cells #[.string ⟨#[110,101,101,100,115]⟩,.string ⟨#[98,101,115,105,100,101]⟩,.string ⟨#[108,105,107,101,115]⟩] 9)) (.cells #[.pointer (some ⟨w1.heap.size,4,none⟩),.pointer (some ⟨w1.heap.size,5,none⟩),.pointer (some ⟨w1.heap.size,6,none⟩)] 152)
  simp only[World.size_alloc] at this
  exact this
 have HB68:Hid (Below w6.heap.size w6 w8):=by unfold Hid;rw[hw8];exact bal (bal (bR _ _) _) _
 have hz8:w8.heap.size=w6.heap.size+2:=by rw[hw8];simp
 rw[←hw8]
 have HP8:=cH (HP6.out.keep HB68.out)
 have Hr8:=cH ((HB68.out.block _ (Nat.lt_trans hz1 hz6)).trans Hr6.out)
 have HB8:=cH (bot HB6.out HB68.out)
 have hz18:w1.heap.size<w8.heap.size:=by omega
 have hne1:w6.heap.size≠w1.heap.size:=by omega
 have hne2:w6.heap.size+1≠w1.heap.size:=by omega
 have Hidx:Hid (∀ W (a:Nat) h,Turn (fun j=>j=w1.heap.size) w8 W→a≤2→Calls Tryz.prog 164 #[.slice (some ⟨w6.heap.size,a,none⟩) (3 - a) (3 - a),.string h] W fun e w'=>e=.returned (.int .i64 (idxI (zAy.drop a) h))∧Below W.heap.size W w'):=fun W a h hT ha=>by
  have h1:SlV rStr W (fun _=>True) zAy (.slice (some ⟨w6.heap.size,0,none⟩) 3 3):=SlV.of_block (hT.at hWB hne1) (zQI (l:=zAy) (by decide)) trivial rfl (by decide) (by decide)
  have h2:=h1.cut a (by omega)
  rw[if_neg (by omega),Option.map_some,zCN,show 0+a * rStr.size=a from by show 0+a * 1=a;omega] at h2
  exact zLe _ _ _ _ h W _ h2
 have Hptr:Hid (∀ W (j:Nat),Turn (fun j=>j=w1.heap.size) w8 W→j<3→W.cell? ⟨w6.heap.size+1,j,none⟩=some (.pointer (some ⟨w1.heap.size,4+j,none⟩))):=fun W j hT hj=>by
  rw[cO _ _ j _ _ _ (hT.at hLB hne2)]
  have:j=0∨j=1∨j=2:=by omega
  rcases this with rfl|rfl|rfl<;>rfl
 have hsl2:∀ a:Nat,a≤2→∀ W,(Instr.slice 53 (.slice (some ⟨w6.heap.size,0,none⟩) 3 3) (some (.int .i64 (a:Int))) none none).run Tryz.prog W=.ok (.slice (some ⟨w6.heap.size,a,none⟩) (3 - a) (3 - a)) W:=fun a ha W=>
  zJF (P:=Tryz.prog) (t:=53) (e:=9) Tryz.underlying53 (by kernel_rfl) (fun _=>by kernel_rfl) w6.heap.size 3 a (by omega) W
 have Hsl2:=cH hsl2
 have Hz8:=cH hz8
 clear hw8 hWB hLB HB68 HP6 HB6 hsl2 hz8 hne1 hne2 Hr6
 go_wp2_with fail
 go_loopw [12,80] (fun a i wr=>∃ (k aN:Nat) (v:Nat→Value) (l:Nat→List Dep) (S:Nat→Prop),k≤ln∧aN≤2∧a=.int .i64 aN∧i=.int .i64 k∧Hid (listsE zAy rest (0,rm 3 fun _=>[])=listsE zAy (rest.drop k) (aN,rm 3 l))∧Hid (∀ j,j<3→(l j).length≤k)∧Hid (zAd 3 w8.heap.size wr v l S)∧Hid (zAs w1.heap.size [.string nm,.int .i64 x1,.int .i64 x2,.int .i64 x3] 57 3 wr v)∧Hid (Turn (fun j=>j=w1.heap.size) w8 wr)) (fun _ i _=>ln - (intOf i).toNat)
 case atStart=>exact ⟨0,0,_,_,_,nZ _,by decide,rfl,rfl,rfl,fun _ _=>nR _,zAd.nil 3 _ _,HP8,Turn.refl _ _⟩
 case round=>
  clear HP8
  obtain ⟨k,aN,v,l,S,hk,ha2,rfl,rfl,Hm,Hlen,HPi,HPa,HT⟩:=hrel
  have HBr:Hid (Below w1.heap.size w1 wr):=HB8.out.trans (HT.out.below (Nat.le_of_lt hz18) (fun q hq=>by rw[hq];exact nR _))
  have hzr:w8.heap.size≤wr.heap.size:=HT.out.size
  have hk0:(0:Int)≤(k:Int):=by omega
  by_cases hlt:k<ln
  case neg=>
   obtain rfl:k=ln:=by omega
   have hI:¬(k:Int)<(k:Int):=by omega
   have hm:=Hm.out
   rw[dN (by have:=Hln.out;omega),listsE] at hm
   obtain ⟨Kf,Kt⟩:=K2l'.out l hm
   have Kf':=cH Kf
   have Kt':=cH Kt
   have HO:Hid (PackO wr w8.heap.size ⟨nm,⟨x1,x2,x3⟩,l 0,l 1,l 2⟩ (.agg #[.string nm,.int .i64 x1,.int .i64 x2,.int .i64 x3,v 0,v 1,v 2])):=⟨v,l,S,rfl,Hnz.out,HPi.out,rfl,rfl,rfl⟩
   have HM:=cH (zEv _ _ wr _ (zAG Hv.out.tab (bot HB1.out HBr.out)) HO.out.packV)
   have p0:wr.cell? ⟨w1.heap.size,0,none⟩=some (.string nm):=cO _ _ 0 _ _ _ HPa.out
   have p1:wr.cell? ⟨w1.heap.size,1,none⟩=some (.int .i64 x1):=cO _ _ 1 _ _ _ HPa.out
   have p2:wr.cell? ⟨w1.heap.size,2,none⟩=some (.int .i64 x2):=cO _ _ 2 _ _ _ HPa.out
   have p3:wr.cell? ⟨w1.heap.size,3,none⟩=some (.int .i64 x3):=cO _ _ 3 _ _ _ HPa.out
   have p4:wr.cell? ⟨w1.heap.size,4,none⟩=some (v 0):=cO _ _ 4 _ _ _ HPa.out
   have p5:wr.cell? ⟨w1.heap.size,5,none⟩=some (v 1):=cO _ _ 5 _ _ _ HPa.out
   have p6:wr.cell? ⟨w1.heap.size,6,none⟩=some (v 2):=cO _ _ 6 _ _ _ HPa.out
   obtain ⟨E0,e0,hv0,_,_⟩:=(HPi.out.1 0 (by decide)).slv.val
   obtain ⟨E1,e1,hv1,_,_⟩:=(HPi.out.1 1 (by decide)).slv.val
   obtain ⟨E2,e2,hv2,_,_⟩:=(HPi.out.1 2 (by decide)).slv.val
   have Hve:Hid (Value.agg (zCT [.string nm,.int .i64 x1,.int .i64 x2,.int .i64 x3] 3 v)=.agg #[.string nm,.int .i64 x1,.int .i64 x2,.int .i64 x3,.slice E0 (l 0).length e0,.slice E1 (l 1).length e1,.slice E2 (l 2).length e2]):=by
    unfold Hid
    rw[show zCT [.string nm,.int .i64 x1,.int .i64 x2,.int .i64 x3] 3 v=#[.string nm,.int .i64 x1,.int .i64 x2,.int .i64 x3,v 0,v 1,v 2] from rfl,hv0,hv1,hv2]
   rw[hv0] at p4 HM
   rw[hv1] at p5 HM
   rw[hv2] at p6 HM
   clear hv0 hv1 hv2
   generalize (l 0).length=n0 at *
   generalize (l 1).length=n1 at *
   generalize (l 2).length=n2 at *
   have hr9:=HT.out.at Hr8.out (by omega)
   have Hr9:=cH hr9
   clear hm Kf Kt K2l' K2e' Hm HLq HO hr9 Hptr Hidx Hsl2 hsl
   generalize packB ⟨nm,⟨x1,x2,x3⟩,l 0,l 1,l 2⟩=okB at *
   go_wp2_with fail
   refine HM.out.mono ?_
   rintro e w9 ⟨rfl,hb9⟩
   have HB9:=cH (bot (bot HB1.out HBr.out) hb9)
   have hr9:=(hb9.block _ (by omega)).trans Hr9.out
   obtain ⟨⟨a0,a1,a2,a3,a4,a5,a6⟩,f0,f1,f2,f3,f4,f5,f6⟩:=row7 hr9
   have Hr99:=cH hr9
   have hbP:w1.heap.size<wr.heap.size:=by omega
   have p0:=zAA hb9 p0 hbP
   have p1:=zAA hb9 p1 hbP
   have p2:=zAA hb9 p2 hbP
   have p3:=zAA hb9 p3 hbP
   have p4:=zAA hb9 p4 hbP
   have p5:=zAA hb9 p5 hbP
   have p6:=zAA hb9 p6 hbP
   have HPi9:=cH (HPi.out.keep hb9)
   clear hb9 hr9 Hr9 HM HPa HPi HT HBr
   cases okB with
   | false=>
     have hq:=Kf'.out rfl
     subst hq
     clear Kf' Kt'
     go_wp2_with fail
     refine zAC rfl rfl rfl rfl (zAa Hr99.out _ _ _ _ _ _ _) Tryz.underlying57 rfl (by kernel_rfl) ⟨_,rfl,PackO.zero _ _,zAV HB9.out (nR _) _ _ _ _ _ _ _⟩
   | true=>
     have hq:=Kt'.out rfl
     subst hq
     clear Kf' Kt'
     go_wp2_with fail
     refine zAC rfl rfl rfl rfl (zAa Hr99.out _ _ _ _ _ _ _) Tryz.underlying57 rfl (by kernel_rfl) ⟨_,rfl,?_,zAV HB9.out (nR _) _ _ _ _ _ _ _⟩
     exact PackO.lower ⟨v,l,S,Hve.out.symm,Hnz.out,HPi9.out.set7 (by omega) _ _ _ _ _ _ _,rfl,rfl,rfl⟩ (by omega)
  have hkI:(k:Int)<(ln:Int):=by omega
  have hkx:k<rest.length:=by have:=Hln.out;omega
  have HLw:=cH (HLq.out.below HBr.out (fun b hb=>hb))
  obtain ⟨bx,ox,rfl,_,hbx⟩:=HLw.out.at (by omega)
  obtain ⟨Aw,cw,cx,hsw⟩:=HLw.out.row (i:=k) (gE hkx)
  obtain ⟨hne,hwl,hwj⟩:=HL2.out rest[k] (by simp[List.getElem_mem])
  have Hat:=cH (fun st=>zNK (order:=zAy) (st:=st) (gE hkx))
  generalize rest[k]=ws at *
  cases ws with
  | nil=>exact absurd rfl hne
  | cons h tl=>
  obtain ⟨bw,ow,rfl,_,hbw⟩:=hsw.at (by simp)
  obtain ⟨ch,hhz⟩:=hsw.str (i:=0) (x:=h) rfl
  rw[Nat.add_zero] at ch
  have Hsw:=cH hsw
  have hs2:=Hsl2.out aN ha2
  have HX:Hid (∀ x:Int,idxI (zAy.drop aN) h=x→∀ d os,Calls Tryz.prog 164 #[.slice (some ⟨w6.heap.size,aN,none⟩) (3 - aN) (3 - aN),.string h] (grow (redrawn wr d) os) fun e w''=>e=.returned (.int .i64 x)∧∃ p:Regrown,w''=grow (redrawn wr p.d) p.os):=fun x hx=>qcall (w:=wr) (fun W hW=>by
   have:=Hidx.out W aN h (HT.out.trans (Turn.of_below hW)) ha2
   rw[hx] at this
   exact this)
  have Hne:=cH hne
  have Hwj:=cH hwj
  have Hwl:=cH hwl
  have ha0:(0:Int)≤(aN:Int):=by omega
  clear hne hwj hwl hsw hbx hbw hhz
  have htl:0<tl.length+1:=by omega
  cases hI:idxGo (zAy.drop aN) h with
  | none=>
    have hq:=K2e'.out 22 (by rw[Hm.out,Hat.out];exact zIR hI)
    subst hq
    have HXq:=cH (HX.out _ (zK8 hI))
    clear hI HX K2e' K2l' Hm Hat
    have r_cx:=cR cx
    have r_ch:=cR ch
    go_wp2_with fail
    refine wQ ?_
    repeat (go_big_quiet_step (first|(with_reducible exact HXq.out _ _)))
    refine wpQuiet_nil fun wa Ba=>?_
    have hra:=(Ba.block _ (by omega)).trans (HT.out.at Hr8.out (by omega))
    obtain ⟨⟨a0,a1,a2,a3,a4,a5,a6⟩,f0,f1,f2,f3,f4,f5,f6⟩:=row7 hra
    have Hra:=cH hra
    have HBa:=cH (bot (bot HB1.out HBr.out) Ba)
    clear r_cx r_ch cx ch hra Ba
    go_wp2_with fail
    refine zAC rfl rfl rfl rfl (zAa Hra.out _ _ _ _ _ _ _) Tryz.underlying57 rfl (by kernel_rfl) ⟨_,rfl,PackO.zero _ _,zAV HBa.out (nR _) _ _ _ _ _ _ _⟩
  | some q=>
  have hq3:aN+q<3:=by
   have h1:=zMm hI
   rw[List.length_drop] at h1
   have h3:zAy.length=3:=rfl
   omega
  have HXq:=cH (HX.out _ (zJ7 hI))
  have Hok:=cH (fun d (hd:depE (zAY (l (aN+q))) (h::tl)=.ok d)=>(Hm.out.trans (Hat.out _)).trans (zMv (n:=3) (l:=l) (ws:=rest.drop (k+1)) (w:=h::tl) hI hq3 hd))
  have Herr:=cH (fun e (hd:depE (zAY (l (aN+q))) (h::tl)=.error e)=>(Hm.out.trans (Hat.out _)).trans (zKM (n:=3) (l:=l) (ws:=rest.drop (k+1)) (w:=h::tl) hI hq3 hd))
  obtain ⟨j,hj⟩:∃ j,j=aN+q:=⟨_,rfl⟩
  rw[←hj] at hq3 Hok Herr
  have hwj:IntKind.i64.wrap ((aN:Int)+(q:Int))=(j:Int):=by rw[IntWalk.i64_in _ ⟨by omega,by omega⟩];omega
  have hqn:¬(q:Int)<0:=by omega
  have hj0:(0:Int)≤(j:Int):=by omega
  have hjI:(j:Int)<3:=by omega
  clear hI HX Hm Hat hj
  have r_cx:=cR cx
  have r_ch:=cR ch
  go_wp2_with fail
  refine wQ ?_
  repeat (go_big_quiet_step (first|(with_reducible exact HXq.out _ _)))
  refine wpQuiet_nil fun wa Ba=>?_
  have HPia:=cH (HPi.out.keep Ba)
  have HPaa:=cH (HPa.out.keep Ba)
  have HTa:=cH (HT.out.trans (Turn.of_below Ba))
  have HBa:=cH (bot HBr.out Ba)
  have Hswa:=cH (Hsw.out.belowSize Ba)
  have hva:=(HPia.out.1 j hq3).slv
  obtain ⟨Ad,cd,hvj,_,_⟩:=hva.val
  rw[hvj] at hva
  have Hva:=cH hva
  have hp4:=HPaa.out.cell hq3
  have hp4:wa.cell? ⟨w1.heap.size,4+j,none⟩=some (v j):=hp4
  rw[hvj] at hp4
  have hpl:=Hptr.out wa j HTa.out hq3
  have hlj:=Hlen.out j hq3
  have hza:w8.heap.size≤wa.heap.size:=HTa.out.size
  have Hwl':Hid ((h::tl).length≤1000000):=by have:=Hwl.out;unfold Hid;omega
  have Hwj':Hid ((joinS (h::tl)).size≤1000000):=by have:=Hwj.out;unfold Hid;omega
  have HD:=cH (zSd (h::tl) (l j) (some ⟨bw,ow,none⟩) (tl.length+1) cw Ad (l j).length cd wa _ _ (Hv.out.below (bot HB1.out HBa.out)) Hswa.out Hva.out Hwj'.out Hwl'.out)
  obtain ⟨nd,hnd⟩:∃ nd,nd=(l j).length:=⟨_,rfl⟩
  rw[←hnd] at hvj hp4 HD hlj
  have Hnd:=cH hnd
  have Hvj:=cH hvj
  clear hvj hva Hva Hswa Ba hnd HPi HPa HT HBr HXq Hsw hzr r_cx r_ch cx ch
  go_wp2_with fail
  refine HD.out.mono ?_
  rintro e wb ⟨hbd,(⟨e',hd,rfl⟩|⟨d,vr,hd,rfl,hsd⟩)⟩
  ·have hq:=K2e'.out e' (Herr.out e' hd)
   have hbe:(e' != 0)=true:=by rw[bne_iff_ne];exact zRv hd
   subst hq
   go_upto_region 24 with (fail)
   obtain ⟨wc,hwc⟩:∃ wc,wc=wb.alloc (.cells #[.string ⟨#[]⟩,.slice none 0 0] 158):=⟨_,rfl⟩
   have hbc:Below wa.heap.size wa wc:=by rw[hwc];exact bal hbd _
   rw[←hwc]
   have hrc:=(hbc.block _ (by omega)).trans (HTa.out.at Hr8.out (by omega))
   obtain ⟨⟨a0,a1,a2,a3,a4,a5,a6⟩,f0,f1,f2,f3,f4,f5,f6⟩:=row7 hrc
   have Hrc:=cH hrc
   have HBc:=cH (bot (bot HB1.out HBa.out) hbc)
   clear hwc hbd hbc hrc hd hp4 hpl K2e' K2l' Hok Herr
   go_wp2_with fail
   refine zAC rfl rfl rfl rfl (zAa Hrc.out _ _ _ _ _ _ _) Tryz.underlying57 rfl (by kernel_rfl) ⟨_,rfl,PackO.zero _ _,zAV HBc.out (nR _) _ _ _ _ _ _ _⟩
  ·obtain ⟨Ar,cr,rfl,_,_⟩:=hsd.val
   obtain ⟨nr,hnr⟩:∃ nr,nr=d.range.length:=⟨_,rfl⟩
   rw[←hnr] at hsd ⊢
   have hnm:=zCG (zQ0 hd)
   have Hnx:=cH (Hok.out d hd)
   clear hnr hd Herr Hok
   obtain ⟨dn,dr⟩:=d
   simp only at hsd hnm ⊢
   go_upto_region 26 with (fail)
   obtain ⟨wc,hwc⟩:∃ wc,wc=wb.alloc (.cells #[.string dn,.slice Ar nr cr] 158):=⟨_,rfl⟩
   have hbc:Below wb.heap.size wb wc:=by rw[hwc];exact bal (bR _ _) _
   have hcc:wc.heap[wb.heap.size]?=some (.cells #[.string dn,.slice Ar nr cr] 158 (0,0)):=by rw[hwc];exact heap_alloc_new wb _
   rw[←hwc]
   obtain ⟨⟨g0,g1⟩,_⟩:=row2 hcc
   have HPm:=cH ((HPia.out.more hbd hza).keep hbc)
   have hbac:Below wa.heap.size wa wc:=bot hbd hbc
   have HPac:=cH (HPaa.out.keep hbac)
   have HTc:=cH (HTa.out.trans (Turn.of_below hbac))
   have hp4:=zAA hbac hp4 (lL hz18 hza)
   have hpl:=zAA hbac hpl (zAE hpl)
   have hfz:=HPac.out.free (4+j)
   have Hh:Hid (rDep.holds wc (fun b=>S b∨Fresh wa.heap.size wb b) ⟨dn,dr⟩ [.string dn,.slice Ar nr cr]):=⟨_,rfl,nT hnm (by decide),(hsd.more (S':=fun b=>S b∨Fresh wa.heap.size wb b) (fun b hb _=>.inr hb)).belowSize hbc⟩
   have Hown:Hid (Own rDep wc w8.heap.size 158 (.slice Ad nd cd) (l j) (fun b=>S b∨Fresh wa.heap.size wb b)):=by have:=HPm.out.1 j hq3;rw[Hvj.out] at this;exact this
   have hzc:w8.heap.size≤wc.heap.size:=HTc.out.size
   have hne:w1.heap.size≠w6.heap.size+1:=by have:=Hz8.out;omega
   clear hwc hbd hbc hcc hbac HPia HPaa HTa hsd hza HD
   have hrow:some w1.heap.size≠(Value.slice Ad nd cd).ownBlock:=fun e=>by have:=(Hown.out.lt _ e.symm).1;omega
   have Hrow:=cH hrow
   have Hrow2:Hid (some (w6.heap.size+1)≠(Value.slice Ad nd cd).ownBlock):=fun e=>by have:=(Hown.out.lt _ e.symm).1;have:=Hz8.out;omega
   have HP2:Hid (w6.heap.size+1<wc.heap.size):=by have:=Hz8.out;unfold Hid;omega
   have HP1:Hid (w1.heap.size<wc.heap.size):=by unfold Hid;omega
   have e4:=fun o=>(zAI (Below.heap_alloc wc o _ (zAE hp4)) _ none).trans hp4
   have el:=fun o=>(zAI (Below.heap_alloc wc o _ (zAE hpl)) _ none).trans hpl
   have eg0:=fun o=>(zAI (Below.heap_alloc wc o _ (zAE g0)) _ none).trans g0
   have eg1:=fun o=>(zAI (Below.heap_alloc wc o _ (zAE g1)) _ none).trans g1
   clear hrow
   go_wp2_with fail
   go_region_law
    (first
     | (refine zDO (by rfl) _ _ _ (by rfl) zLj Tryz.underlying22 (by rfl) (Hown.out.drew.alloc _) ⟨wc.heap.size,0,none⟩ 1 [.string dn,.slice Ar nr cr] ⟨dn,dr⟩ (by rfl) (Rp.alloc (Rp.drew Hh.out) _)
         (zAz wc.drew #[.string dn,.slice Ar nr cr] _) (by rw[←Hnd.out];unfold maxLen;omega) (by rw[←Hnd.out];omega) (by simp;omega) (wc.heap.size+1) (by simp) ?_;intro g6 cap6 w9 hown6 hgrow hat hg6;have hc6:=hgrow.cell ((zAI (Below.heap_alloc wc.drew _ _ HP1.out) _ _).trans hp4) Hrow.out;have hl6:=hgrow.cell ((zAI (Below.heap_alloc wc.drew _ _ HP2.out) _ _).trans hpl) Hrow2.out;have hf6:=(zBr ((hgrow.block _ (by simp;have:=HP1.out;omega) Hrow.out).trans (Below.heap_alloc wc.drew _ _ HP1.out)) (4+j) none).trans hfz))
   all_goals
    have hg7:=hgrow
    rw[←Hvj.out] at hg7 hat
    obtain ⟨s1,s2,s3⟩:=zIV (hd:=[.string nm,.int .i64 x1,.int .i64 x2,.int .i64 x3]) hz18 HPm.out HPac.out HTc.out hq3 hown6 hg7 hat
    have S1:=cH s1
    have S2:=cH s2
    have S3:=cH s3
    clear s1 s2 s3 hg7 hgrow hown6 hat hc6 hl6 hf6 hp4 hpl hfz HPm HPac HTc Hown Hh g0 g1 e4 el eg0 eg1
    go_wp2_with fail
    go_roundw
    case rel=>
     refine ⟨k+1,j,_,_,_,by omega,by omega,rfl,by go_num,Hnx,?_,S1,S2,S3⟩
     intro j' hj'
     have:=Hlen.out j' hj'
     show (if j'=j then l j++[_] else l j').length≤k+1
     split
     ·rename_i e
      rw[e] at this
      rw[List.length_append,List.length_singleton];omega
     ·omega
    case measure=>simp[intOf];omega
