/- Ranges' texts read, in plain words: a word, a printed range, two texts in one. -/
import Derived.Test.YthbnmehbhpakaaaGreatDoorBk12
import Derived.Test.YthbnmehbhpakaaaGreatDoorBk06
import Derived.Test.YthbnmehbhpakaaaGreatDoorBkC
import Derived.KernelRfl
import Derived.Test.YthbnmehbhpakaaaGreatDoorBk07
import Derived.Test.YthbnmehbhpakaaaGreatDoorAl
set_option linter.all false
set_option maxRecDepth 100000
namespace Go.Proofs.YthbnmehbhpakaaaGreatDoor
def runL (x:Rk):List Rk:=if x.1≤x.2 then [x] else []
theorem zNC {x:Rk} (h:x.1≤x.2):runL x=[x]:=if_pos h
theorem zST {x:Rk} (h:¬x.1≤x.2):runL x=[]:=if_neg h
noncomputable def innL (cs:List UInt8):Option (Rk×Bool):=innF ((wrdL [] cs).map mkB)
theorem zRR (s:ByteArray):innF (spl s zCr)=innL s.data.toList:=by unfold innL;rw[zPw]
theorem zHM (st:Option (Rk×Bool)):stepW st (mkB [])=st:=by
 cases st with
 | none=>rfl
 | some q=>
   obtain ⟨o,b⟩:=q
   have e:stepW (some (o,b)) (mkB [])=if mkB []=(⟨#[]⟩:ByteArray) then some (o,b) else (match wordF (mkB []) with|none=>none|some x=>some ((max o.1 x.1,min o.2 x.2),true)):=rfl
   exact e.trans (if_pos rfl)
theorem zFz {o x:Rk} {b:Bool} {s:ByteArray} (h:wordF s=some x):stepW (some (o,b)) s=some ((max o.1 x.1,min o.2 x.2),true):=by
 have hs:s≠⟨#[]⟩:=by
  rintro rfl
  unfold wordF at h
  rw[if_neg (by decide)] at h
  have:zAS (bareB ⟨#[]⟩)=none:=zFS fun v hv e=>by
   have e1:=zNH hv
   rw[←e,show pAll (bareB ⟨#[]⟩).data.toList=some ([],0) from rfl] at e1
   cases e1
  rw[this] at h
  cases h
 show (if s=⟨#[]⟩ then _ else match wordF s with|none=>none|some x=>some ((max o.1 x.1,min o.2 x.2),true))=_
 rw[if_neg hs,h]
theorem zQP (cs:List UInt8):innL (32::cs)=innL cs:=by
 unfold innL innF
 rw[zCk,List.map_cons,List.foldl_cons,zHM]
theorem zOe (cs:List UInt8):innL (cs++[32])=innL cs:=by
 unfold innL innF
 rw[zLg cs [] [],List.map_append,List.foldl_append]
 exact zHM _
theorem zJL {cs:List UInt8} (h:(32:UInt8)∉cs) {x:Rk} (hw:wordF (mkB cs)=some x):innL cs=some ((max 0 x.1,min lastR x.2),true):=by
 unfold innL innF
 rw[zLX cs [] h]
 exact zFz hw
theorem zRx {cs ds:List UInt8} (h:(32:UInt8)∉cs) (g:(32:UInt8)∉ds) {x y:Rk} (hx:wordF (mkB cs)=some x) (hy:wordF (mkB ds)=some y):innL (cs++32::ds)=some ((max (max 0 x.1) y.1,min (min lastR x.2) y.2),true):=by
 unfold innL innF
 rw[zPT cs [] ds h,zLX ds [] g]
 show stepW (stepW _ (mkB ([]++cs))) (mkB ([]++ds))=_
 rw[List.nil_append,List.nil_append,zFz hx]
 exact zFz hy
theorem txt_bytes {v:Ver} (h:v.ok=true):∀ c∈v.txt.data.toList,c=46∨(48≤c.toNat∧c.toNat≤57):=by
 intro c hc
 obtain ⟨⟨a0,a1⟩,⟨b0,b1⟩,c0,c1⟩:=zA0.1 (show verB v.major v.minor v.patch=true from h)
 have key:∀ n:Int,0≤n→n≤999→c∈(itoaB n).data.toList→48≤c.toNat∧c.toNat≤57:=fun n h0 h1 hm=>by
  have:=List.all_eq_true.1 (zBa h0 h1).2 c hm
  simpa using this
 rw[zKT h] at hc
 simp only[List.mem_append,List.mem_cons] at hc
 rcases hc with hc|hc|hc|hc|hc
 ·exact .inr (key _ a0 a1 hc)
 ·exact .inl hc
 ·exact .inr (key _ b0 b1 hc)
 ·exact .inl hc
 ·exact .inr (key _ c0 c1 hc)
theorem zNG {v:Ver} (h:v.ok=true) {c:UInt8} (hc:c≠46) (hd:¬(48≤c.toNat∧c.toNat≤57)):c∉v.txt.data.toList:=fun hm=>by
 rcases txt_bytes h c hm with e|e
 ·exact hc e
 ·exact hd e
theorem zNe {v:Ver} (h:v.ok=true) {c:UInt8} (hm:c∈v.txt.data.toList):zEi.contains c=false:=by
 cases hs:zEi.contains c with
 | false=>rfl
 | true=>
   rcases isSign_iff.1 hs with rfl|rfl|rfl|rfl|rfl<;>exact absurd hm (zNG h (by decide) (by decide))
theorem zJE {p:UInt8→Bool}:∀ {g r:List UInt8},(∀ c∈g,p c=true)→(∀ c∈r,p c=false)→(g++r).dropWhile p=r:=by
 intro g
 induction g with
 | nil=>
   intro r _ h
   cases r with
   | nil=>rfl
   | cons c r=>rw[List.nil_append,List.dropWhile_cons,h c (by simp)];rfl
 | cons c g ih=>
   intro r h1 h2
   rw[List.cons_append,List.dropWhile_cons,h1 c (by simp)]
   exact ih (fun d hd=>h1 d (by simp[hd])) h2
theorem zET {g:List UInt8} {v:Ver} (hg:∀ c∈g,zEi.contains c=true) (hv:v.ok=true):wordF (mkB (g++v.txt.data.toList))=zCZ g v:=by
 have hne:mkB (g++v.txt.data.toList)≠⟨#[42]⟩:=fun e=>by
  have e':g++v.txt.data.toList=[42]:=congrArg (·.data.toList) e
  have hm:(42:UInt8)∈g++v.txt.data.toList:=by rw[e'];simp
  rcases List.mem_append.1 hm with h|h
  ·exact absurd (hg 42 h) (by decide)
  ·exact zNG hv (by decide) (by decide) h
 have hb:bareB (mkB (g++v.txt.data.toList))=v.txt:=by
  apply zBF
  show (g++v.txt.data.toList).dropWhile (fun c=>zEi.contains c)=_
  exact zJE hg fun c hc=>zNe hv hc
 have hs:(signB (mkB (g++v.txt.data.toList))).data.toList=g:=by
  unfold signB
  rw[Lib.extract_from_zero,hb,zAJ,zAJ v.txt]
  show (g++v.txt.data.toList).take ((g++v.txt.data.toList).length - v.txt.data.toList.length)=g
  rw[List.length_append,Nat.add_sub_cancel,List.take_left]
 unfold wordF
 rw[if_neg hne,hb,hs,zBq hv rfl]
theorem zFq {g:List UInt8} {v:Ver} (hg:∀ c∈g,zEi.contains c=true) (hv:v.ok=true):(32:UInt8)∉g++v.txt.data.toList∧(124:UInt8)∉g++v.txt.data.toList:=by
 constructor
 ·intro h
  rcases List.mem_append.1 h with h|h
  ·exact absurd (hg _ h) (by decide)
  ·exact zNG hv (by decide) (by decide) h
 ·intro h
  rcases List.mem_append.1 h with h|h
  ·exact absurd (hg _ h) (by decide)
  ·exact zNG hv (by decide) (by decide) h
noncomputable def altsL (t:List UInt8):Option (List Rk):=altsF ((altL [] t).map mkB)
theorem zLm (t:ByteArray):zFT t=if 4096<t.size then none else altsL t.data.toList:=by unfold zFT altsL;rw[zR3]
theorem zFt {all:List Rk} {o:Rk} {cs:List UInt8} (h:innL cs=some (o,true)):stepA (some all) (mkB cs)=some (all++runL o):=by
 show (match innF (spl (mkB cs) zCr) with|none=>none|some (o,b)=>if b=false then none else if o.1≤o.2 then some (all++[o]) else some all)=_
 rw[zRR,zGX,h]
 simp only[Bool.true_eq_false,if_false]
 by_cases hle:o.1≤o.2
 ·rw[if_pos hle,zNC hle]
 ·rw[if_neg hle,zST hle,List.append_nil]
theorem zI2 {s:Spn} (hlo:s.lo.ok=true) (hhi:s.hi.ok=true) (hle:s.lo.rank≤s.hi.rank) :
  (124:UInt8)∉(zAP s).data.toList∧innL (zAP s).data.toList=some ((s.lo.rank,s.hi.rank),true):=by
 obtain ⟨l0,l1⟩:=zJi hlo
 obtain ⟨h0,h1⟩:=zJi hhi
 have key:∀ (g:List UInt8) (v:Ver) (x:Rk),v.ok=true→(∀ c∈g,zEi.contains c=true)→zCZ g v=some x→(124:UInt8)∉g++v.txt.data.toList∧innL (g++v.txt.data.toList)=some ((max 0 x.1,min lastR x.2),true):=fun g v x hv hg hr=>by
  obtain ⟨n1,n2⟩:=zFq hg hv
  exact ⟨n2,zJL n1 ((zET hg hv).trans hr)⟩
 unfold zAP
 by_cases c1:s.lo.rank=s.hi.rank
 ·rw[if_pos c1]
  obtain ⟨k1,k2⟩:=key [] s.lo (s.lo.rank,s.lo.rank) hlo (fun c hc=>by cases hc) rfl
  refine ⟨k1,k2.trans ?_⟩
  rw[←c1]
  simp only[Option.some.injEq,Prod.mk.injEq,and_true]
  omega
 ·rw[if_neg c1]
  by_cases c2:s.lo.rank=0
  ·rw[if_pos c2]
   by_cases c3:s.hi.rank=999999999
   ·rw[if_pos c3,c2,c3]
    refine ⟨by decide,?_⟩
    have e:innL starB.data.toList=some ((max 0 (0:Int),min lastR lastR),true):=zJL (x:=(0,lastR)) (by decide) (if_pos rfl)
    rw[e];rfl
   ·rw[if_neg c3]
    obtain ⟨k1,k2⟩:=key [60,61] s.hi (0,s.hi.rank) hhi (by decide) rfl
    have e:(leB++s.hi.text).data.toList=[60,61]++s.hi.txt.data.toList:=by simp[leB];rfl
    rw[e]
    refine ⟨k1,k2.trans ?_⟩
    rw[c2]
    simp only[Option.some.injEq,Prod.mk.injEq,and_true]
    omega
  ·rw[if_neg c2]
   by_cases c3:s.hi.rank=999999999
   ·rw[if_pos c3]
    obtain ⟨k1,k2⟩:=key [62,61] s.lo (s.lo.rank,lastR) hlo (by decide) rfl
    have e:(geB++s.lo.text).data.toList=[62,61]++s.lo.txt.data.toList:=by simp[geB];rfl
    rw[e]
    refine ⟨k1,k2.trans ?_⟩
    rw[c3]
    simp only[Option.some.injEq,Prod.mk.injEq,and_true]
    unfold lastR at *
    omega
   ·rw[if_neg c3]
    have e:(geB++s.lo.text++andB++s.hi.text).data.toList=([62,61]++s.lo.txt.data.toList)++32::([60,61]++s.hi.txt.data.toList):=by
     rw[show s.lo.text=s.lo.txt from rfl,show s.hi.text=s.hi.txt from rfl]
     simp[geB,andB]
    rw[e]
    obtain ⟨n1,n2⟩:=zFq (g:=[62,61]) (by decide) hlo
    obtain ⟨m1,m2⟩:=zFq (g:=[60,61]) (by decide) hhi
    refine ⟨?_,(zRx n1 m1 ((zET (by decide) hlo).trans (show zCZ [62,61] s.lo=some (s.lo.rank,lastR) from rfl)) ((zET (by decide) hhi).trans (show zCZ [60,61] s.hi=some (0,s.hi.rank) from rfl))).trans ?_⟩
    ·intro h
     rcases List.mem_append.1 h with h|h
     ·exact n2 h
     ·rcases List.mem_cons.1 h with h|h
      ·exact absurd h (by decide)
      ·exact m2 h
    ·simp only[Option.some.injEq,Prod.mk.injEq,and_true]
     unfold lastR at *
     omega
theorem zP5:∀ (l:List Spn) (all:List Rk) (acc:List UInt8),(acc=[]∨acc=[32])→l≠[]→(∀ s∈l,s.lo.ok=true∧s.hi.ok=true∧s.lo.rank≤s.hi.rank) →
  ((altL acc (Lib.join (l.map fun s=>(zAP s).data.toList) [32,124,124,32])).map mkB).foldl stepA (some all)=some (all++rks l):=by
 intro l
 induction l with
 | nil=>intro all acc _ h;exact absurd rfl h
 | cons s l ih=>
   intro all acc hacc _ hok
   obtain ⟨o1,o2,o3⟩:=hok s (by simp)
   obtain ⟨r1,r2⟩:=zI2 o1 o2 o3
   have hlead:∀ cs,innL (acc++cs)=innL cs:=fun cs=>by
    rcases hacc with rfl|rfl
    ·rfl
    ·exact zQP cs
   have hrun:runL (s.lo.rank,s.hi.rank)=[(s.lo.rank,s.hi.rank)]:=zNC o3
   rw[List.map_cons,Lib.join_cons]
   cases l with
   | nil=>
     rw[List.map_nil]
     show ((altL acc ((zAP s).data.toList++[])).map mkB).foldl stepA (some all)=_
     rw[List.append_nil,zKH _ _ r1]
     show stepA (some all) (mkB (acc++(zAP s).data.toList))=_
     rw[zFt ((hlead _).trans r2),hrun]
     rfl
   | cons t l=>
     have e:(zAP s).data.toList++Lib.joinTail [32,124,124,32] ((t::l).map fun s=>(zAP s).data.toList) =
       ((zAP s).data.toList++[32])++124::124::(32::Lib.join ((t::l).map fun s=>(zAP s).data.toList) [32,124,124,32]):=by
      rw[List.map_cons,Lib.join_cons]
      simp[Lib.joinTail]
     rw[e,zPU _ _ _ (by simp only[List.mem_append,List.mem_singleton,not_or];exact ⟨r1,by decide⟩),zFs (by decide),List.map_cons,List.foldl_cons]
     rw[zFt (o:=(s.lo.rank,s.hi.rank)) (by rw[←List.append_assoc,zOe,hlead];exact r2),hrun]
     rw[ih (all++[(s.lo.rank,s.hi.rank)]) ([]++[32]) (.inr rfl) (by simp) (fun x hx=>hok x (by simp[hx]))]
     unfold rks
     rw[List.map_cons,List.append_assoc]
     rfl
theorem zNl {l:List Spn} (h:zAp l=true):zBM (zAO l)=(l,0):=by
 have hsz:=zC6 l
 have hs:zFT (zAO l)=some (rks l):=by
  rw[zLm,if_neg (by omega)]
  unfold zAO
  rw[if_pos h]
  by_cases h0:l=[]
  ·subst h0
   rw[if_pos rfl]
   unfold altsL altsF
   have e1:(altL [] noneB.data.toList)=[noneB.data.toList]:=zKH _ [] (by decide)
   rw[e1]
   show stepA (some []) (mkB noneB.data.toList)=_
   have e2:noneB.data.toList=[60]++(⟨0,0,0⟩:Ver).txt.data.toList:=by decide +kernel
   have e3:wordF (mkB noneB.data.toList)=some (0,-1):=by
    rw[e2,zET (v:=⟨0,0,0⟩) (by decide) (by decide)]
    decide
   rw[zFt (zJL (by decide) e3)]
   decide
  ·rw[if_neg h0]
   obtain ⟨_,h2,h3⟩:=zDI h
   have hin:=zPQ h
   unfold altsL altsF
   have:=zP5 l [] [] (.inl rfl) h0 fun s hs=>⟨(h2 s hs).1,(h2 s hs).2,(hin _ (List.mem_map.2 ⟨s,hs,rfl⟩)).2.1⟩
   rw[List.nil_append] at this
   rw[←this]
   unfold joinB
   rw[List.map_map]
   rfl
 unfold zBM
 rw[hs]
 simp only
 rw[zOg (zQD h),zRj h]
def splL (b:UInt8):List UInt8→List UInt8→List (List UInt8)
 | acc,[]=>[acc]
 | acc,c::t=>if c=b then acc::splL b [] t else splL b (acc++[c]) t
theorem zBO (b:UInt8) (acc t:List UInt8):splL b acc (b::t)=acc::splL b [] t:=by rw[splL,if_pos rfl]
theorem zAu {b c:UInt8} (h:c≠b) (acc t:List UInt8):splL b acc (c::t)=splL b (acc++[c]) t:=by rw[splL,if_neg h]
theorem zGW (b:UInt8):∀ (s acc:List UInt8),∃ p l,splL b [] s=p::l∧splL b acc s=(acc++p)::l:=by
 intro s
 induction s with
 | nil=>intro acc;exact ⟨[],[],rfl,by rw[splL,List.append_nil]⟩
 | cons c s ih=>
   intro acc
   by_cases h:c=b
   ·subst h;exact ⟨[],splL c [] s,zBO _ _ _,by rw[zBO,List.append_nil]⟩
   ·obtain ⟨p,l,h1,h2⟩:=ih [c]
    obtain ⟨p',l',h3,h4⟩:=ih (acc++[c])
    rw[h1] at h3
    cases h3
    exact ⟨[c]++p,l,by rw[zAu h,List.nil_append,h2],by rw[zAu h,h4,List.append_assoc]⟩
theorem zPF (b:UInt8):∀ (s acc:List UInt8),b∉s→splL b acc s=[acc++s]:=by
 intro s
 induction s with
 | nil=>intro acc _;rw[splL,List.append_nil]
 | cons c s ih=>
   intro acc h
   rw[List.mem_cons,not_or] at h
   rw[zAu (fun e=>h.1 e.symm),ih _ h.2,List.append_assoc];rfl
theorem zJ0 (b:UInt8):∀ (p acc t:List UInt8),b∉p→splL b acc (p++b::t)=(acc++p)::splL b [] t:=by
 intro p
 induction p with
 | nil=>intro acc t _;rw[List.nil_append,zBO,List.append_nil]
 | cons c p ih=>
   intro acc t h
   rw[List.mem_cons,not_or] at h
   rw[List.cons_append,zAu (fun e=>h.1 e.symm),ih _ _ h.2,List.append_assoc];rfl
theorem zE4 (b:UInt8):∀ (s acc t:List UInt8),splL b acc (s++b::t)=splL b acc s++splL b [] t:=by
 intro s
 induction s with
 | nil=>intro acc t;rw[List.nil_append,zBO,splL];rfl
 | cons c s ih=>
   intro acc t
   by_cases h:c=b
   ·subst h;rw[List.cons_append,zBO,zBO,ih,List.cons_append]
   ·rw[List.cons_append,zAu h,zAu h,ih]
theorem zMq (b:UInt8):∀ (s acc:List UInt8),(splL b acc s).length≤s.length+1:=by
 intro s
 induction s with
 | nil=>intro acc;rw[splL];exact nR _
 | cons c s ih=>
   intro acc
   by_cases h:c=b
   ·subst h;rw[zBO,List.length_cons,List.length_cons];have:=ih [];omega
   ·rw[zAu h,List.length_cons];have:=ih (acc++[c]);omega
theorem zB8 (b:UInt8) {c:UInt8} (hc:c≠b):∀ (s acc:List UInt8) (ws:List (List UInt8)) (cur:List UInt8),splL b acc s=ws++[cur]→splL b acc (s++[c])=ws++[cur++[c]]:=by
 intro s
 induction s with
 | nil=>
   intro acc ws cur h
   rw[splL] at h
   rw[List.nil_append,zAu hc,splL]
   cases ws with
   | nil=>simp only[List.nil_append,List.cons.injEq,and_true] at h;rw[h];rfl
   | cons x ws=>simp at h
 | cons d s ih=>
   intro acc ws cur h
   by_cases hd:d=b
   ·subst hd
    rw[zBO] at h
    rw[List.cons_append,zBO]
    cases ws with
    | nil=>
      obtain ⟨p,l,h1,_⟩:=zGW d s []
      rw[h1] at h
      simp at h
    | cons x ws=>
      rw[List.cons_append] at h
      obtain ⟨hx,h2⟩:=List.cons.inj h
      rw[List.cons_append,ih [] ws cur h2,hx]
   ·rw[zAu hd] at h
    rw[List.cons_append,zAu hd]
    exact ih _ _ _ h
theorem zFW (b:UInt8) (s acc:List UInt8):splL b acc (s++[b])=splL b acc s++[[]]:=by
 have:=zE4 b s acc []
 rw[splL] at this
 exact this
def visB (c:UInt8):Bool:=decide (33≤c.toNat)&&decide (c.toNat≤126)
def zCx (w:List UInt8):Bool:=!w.isEmpty&&w.all visB
def lineF (l:List UInt8):Option (List (List UInt8)):=if (splL 32 [] l).all zCx=true then some (splL 32 [] l) else none
def zEj:List (List UInt8)→Option (List (List (List UInt8)))
 | []=>none
 | [l]=>if l=[] then some [] else none
 | l::k::r=>match lineF l with
   | none=>none
   | some w=>(zEj (k::r)).map (w::·)
def zCB (t:List UInt8):Option (List (List (List UInt8))):=zEj (splL 10 [] t)
theorem zCz {l:List UInt8} {r:List (List UInt8)} (h:r≠[]):zEj (l::r)=match lineF l with
  | none=>none
  | some w=>(zEj r).map (w::·):=by
 cases r with
 | nil=>exact absurd rfl h
 | cons k r=>rfl
theorem zGb (b:UInt8) (acc s:List UInt8):splL b acc s≠[]:=by
 obtain ⟨p,l,_,h⟩:=zGW b s acc
 rw[h];simp
def scanW:List (List UInt8)→List UInt8→List UInt8→Option (List (List (List UInt8)))
 | _,_,[]=>none
 | ws,cur,c::t=>if visB c=true then scanW ws (cur++[c]) t
   else if cur=[] then none
   else if c=32 then scanW (ws++[cur]) [] t
   else if c=10 then (if t=[] then some [ws++[cur]] else (scanW [] [] t).map ((ws++[cur])::·))
   else none
def scanL (s:List UInt8):Option (List (List (List UInt8))):=if s=[] then some [] else scanW [] [] s
theorem zIN {ws:List (List UInt8)} {cur t:List UInt8} (h:cur≠[]):scanW ws cur (10::t)=(scanL t).map ((ws++[cur])::·):=by
 rw[scanW,if_neg (by decide),if_neg h,if_neg (by decide),if_pos rfl]
 unfold scanL
 by_cases ht:t=[]
 ·rw[if_pos ht,if_pos ht];rfl
 ·rw[if_neg ht,if_neg ht]
theorem zIt {ws:List (List UInt8)} {cur t:List UInt8} (h:cur≠[]):scanW ws cur (32::t)=scanW (ws++[cur]) [] t:=by
 rw[scanW,if_neg (by decide),if_neg h,if_pos rfl]
theorem zEG {ws:List (List UInt8)} {cur t:List UInt8} {c:UInt8} (h:visB c=true):scanW ws cur (c::t)=scanW ws (cur++[c]) t:=by
 rw[scanW,if_pos h]
theorem zCu {ws:List (List UInt8)} {cur t:List UInt8} {c:UInt8} (h:visB c=false) (h2:cur=[]∨(c≠32∧c≠10)):scanW ws cur (c::t)=none:=by
 rw[scanW,if_neg (by rw[h];decide)]
 by_cases hc:cur=[]
 ·rw[if_pos hc]
 ·rw[if_neg hc]
  obtain ⟨h3,h4⟩:=h2.resolve_left hc
  rw[if_neg h3,if_neg h4]
def DeadL (acc:List UInt8):Prop:=∀ r,(splL 32 [] (acc++r)).all zCx=false
theorem DeadL.more {acc:List UInt8} (h:DeadL acc) (c:UInt8):DeadL (acc++[c]):=fun r=>by rw[List.append_assoc];exact h _
theorem DeadL.ne {acc:List UInt8} (h:DeadL acc):acc≠[]:=by
 rintro rfl
 exact absurd (h [97]) (by decide)
theorem zIo:∀ (s acc:List UInt8),DeadL acc→zEj (splL 10 acc s)=none:=by
 intro s
 induction s with
 | nil=>intro acc h;rw[splL];show (if acc=[] then _ else _)=_;rw[if_neg h.ne]
 | cons c s ih=>
   intro acc h
   by_cases hc:c=10
   ·subst hc
    rw[zBO,zCz (zGb _ _ _)]
    have:lineF acc=none:=by
     unfold lineF
     rw[if_neg]
     have:=h []
     rw[List.append_nil] at this
     rw[this];decide
    rw[this]
   ·rw[zAu hc];exact ih _ (h.more c)
theorem zRK {b:UInt8} {acc s:List UInt8} {ws:List (List UInt8)} {cur:List UInt8} (h:splL b acc s=ws++[cur]):∀ r,∃ p l,splL b acc (s++r)=ws++(cur++p)::l:=by
 intro r
 induction r generalizing s ws cur with
 | nil=>exact ⟨[],[],by rw[List.append_nil,h,List.append_nil]⟩
 | cons c r ih=>
   by_cases hc:c=b
   ·subst hc
    rw[zE4,h]
    exact ⟨[],splL c [] r,by rw[List.append_nil,List.append_assoc];rfl⟩
   ·have h1:=zB8 b hc s acc ws cur h
    obtain ⟨p,l,h2⟩:=ih h1
    refine ⟨c::p,l,?_⟩
    rw[show s++c::r=(s++[c])++r by simp,h2]
    simp
theorem zL6 {acc:List UInt8} {ws:List (List UInt8)} {cur:List UInt8} (h:splL 32 [] acc=ws++[cur]) (hb:(∃ c∈cur,visB c=false)∨(∃ w∈ws,zCx w=false)):DeadL acc:=fun r=>by
 obtain ⟨p,l,e⟩:=zRK h r
 rw[e,List.all_append,List.all_cons]
 rcases hb with ⟨c,hc,hv⟩|⟨w,hw,hv⟩
 ·have:zCx (cur++p)=false:=by
   unfold zCx
   rw[List.all_append,List.all_eq_false.2 ⟨c,hc,by rw[hv];decide⟩]
   simp
  rw[this];simp
 ·rw[List.all_eq_false.2 ⟨w,hw,by rw[hv];decide⟩];rfl
theorem zTG {c:UInt8} (h:visB c=true):c≠32∧c≠10:=by
 constructor
 ·rintro rfl;exact absurd h (by decide)
 ·rintro rfl;exact absurd h (by decide)
theorem zOz:∀ (n:Nat) (s acc:List UInt8) (ws:List (List UInt8)) (cur:List UInt8),s.length≤n→splL 32 [] acc=ws++[cur]→ws.all zCx=true→cur.all visB=true→(acc≠[]∨s≠[])→zEj (splL 10 acc s)=scanW ws cur s:=by
 intro n
 induction n with
 | zero=>
   intro s acc ws cur hn h hw hc hne
   obtain rfl:=List.eq_nil_of_length_eq_zero (Nat.le_zero.1 hn)
   rw[splL,scanW]
   show (if acc=[] then _ else _)=_
   rw[if_neg (hne.resolve_right (by simp))]
 | succ n ih=>
   intro s acc ws cur hn h hw hcv hne
   cases s with
   | nil=>
     rw[splL,scanW]
     show (if acc=[] then _ else _)=_
     rw[if_neg (hne.resolve_right (by simp))]
   | cons c t=>
     simp only[List.length_cons] at hn
     cases hv:visB c with
     | true=>
       obtain ⟨h1,h2⟩:=zTG hv
       rw[zAu h2,zEG hv]
       exact ih t _ ws (cur++[c]) (by omega) (zB8 32 h1 acc [] ws cur h) hw (by rw[List.all_append,hcv];simp[hv]) (.inl (by simp))
     | false=>
       by_cases hcur:cur=[]
       ·rw[zCu hv (.inl hcur)]
        subst hcur
        by_cases h10:c=10
        ·subst h10
         rw[zBO,zCz (zGb _ _ _)]
         have:lineF acc=none:=by
          unfold lineF
          rw[if_neg]
          rw[h,List.all_append];simp[zCx]
         rw[this]
        ·rw[zAu h10]
         refine zIo t _ ?_
         by_cases h32:c=32
         ·subst h32
          refine zL6 (ws:=ws++[[]]) (cur:=[]) (by rw[zFW,h]) (.inr ⟨[],by simp,by decide⟩)
         ·exact zL6 (zB8 32 h32 acc [] ws [] h) (.inl ⟨c,by simp,hv⟩)
       ·have hok:(ws++[cur]).all zCx=true:=by
         rw[List.all_append,hw]
         simp[zCx,hcv,hcur]
        by_cases h10:c=10
        ·subst h10
         rw[zBO,zCz (zGb _ _ _),zIN hcur]
         have:lineF acc=some (ws++[cur]):=by unfold lineF;rw[h,if_pos hok]
         rw[this]
         simp only
         congr 1
         unfold scanL
         by_cases ht:t=[]
         ·subst ht;rw[if_pos rfl];rfl
         ·rw[if_neg ht]
          exact ih t [] [] [] (by omega) rfl rfl rfl (.inr ht)
        ·by_cases h32:c=32
         ·subst h32
          rw[zAu h10,zIt hcur]
          exact ih t _ (ws++[cur]) [] (by omega) (by rw[zFW,h]) hok rfl (.inl (by simp))
         ·rw[zAu h10,zCu hv (.inr ⟨h32,h10⟩)]
          exact zIo t _ (zL6 (zB8 32 h32 acc [] ws cur h) (.inl ⟨c,by simp,hv⟩))
theorem zNs (t:List UInt8):zCB t=scanL t:=by
 unfold zCB scanL
 by_cases h:t=[]
 ·subst h;rfl
 ·rw[if_neg h];exact zOz _ t [] [] [] (nR _) rfl rfl rfl (.inr h)
def zEC (t:ByteArray):Option (List (List ByteArray)):=(zCB t.data.toList).map fun l=>l.map fun w=>w.map mkB
def scanQ (most:Nat) (t:ByteArray):List (List ByteArray)×Int:=if most<t.size then ([],25) else match zEC t with
 | none=>([],22)
 | some l=>(l,0)
def joinS (l:List ByteArray):ByteArray:=mkB (Lib.join (l.map (·.data.toList)) [32])
noncomputable def depE (prev:Option ByteArray):List ByteArray→Except Int Dep
 | _::nm::r::rest=>if (nameB nm&&behind prev nm)=true then (if (zBM (joinS (r::rest))).2=0∧(zBM (joinS (r::rest))).1≠[] then .ok ⟨nm,(zBM (joinS (r::rest))).1⟩ else .error 21) else .error 23
 | _=>.error 22
def idxGo:List ByteArray→ByteArray→Option Nat
 | [],_=>none
 | y::l,x=>if y.data.toList=x.data.toList then some 0 else (idxGo l x).map (·+1)
def zAY (l:List Dep):Option ByteArray:=l.getLast?.map (·.name)
noncomputable def zDF (order:List ByteArray) (st:Nat×List (List Dep)) (w:List ByteArray):Except Int (Nat×List (List Dep)):=
 match idxGo (order.drop st.1) (w.headD ⟨#[]⟩) with
 | none=>.error 22
 | some k=>match depE (zAY (st.2.getD (st.1+k) [])) w with
   | .error e=>.error e
   | .ok d=>.ok (st.1+k,st.2.set (st.1+k) (st.2.getD (st.1+k) []++[d]))
noncomputable def listsE (order:List ByteArray):List (List ByteArray)→Nat×List (List Dep)→Except Int (List (List Dep))
 | [],st=>.ok st.2
 | w::ws,st=>match zDF order st w with
   | .error e=>.error e
   | .ok st'=>listsE order ws st'
def packageW:ByteArray:=⟨#[112,97,99,107,97,103,101]⟩
def zAy:List ByteArray:=[zBR,zCp,zBi]
noncomputable def packE (t:ByteArray):Except Int Pack:=
 if (scanQ 4096 t).2≠0 then .error (scanQ 4096 t).2 else match (scanQ 4096 t).1 with
 | [w0,nm,vs]::rest=>if w0.data.toList≠packageW.data.toList then .error 22 else if nameB nm=false then .error 23 else match zAS vs with
   | none=>.error 20
   | some v=>match listsE zAy rest (0,[[],[],[]]) with
     | .error e=>.error e
     | .ok [d,p,o]=>if packB ⟨nm,v,d,p,o⟩=true then .ok ⟨nm,v,d,p,o⟩ else .error 24
     | .ok _=>.error 0
 | _=>.error 22
def packZ:Pack:=⟨⟨#[]⟩,⟨0,0,0⟩,[],[],[]⟩
theorem zCn {l t:List UInt8} (h:(10:UInt8)∉l):zCB (l++10::t)=match lineF l with
  | none=>none
  | some w=>(zCB t).map (w::·):=by
 unfold zCB
 rw[zJ0 10 l [] t h,List.nil_append,zCz (zGb _ _ _)]
 all_goals (cases lineF l<;>rfl)
theorem zCl {w l:List UInt8} {ws:List (List UInt8)} (hw:zCx w=true) (hn:(32:UInt8)∉w) (h:lineF l=some ws):lineF (w++32::l)=some (w::ws):=by
 unfold lineF at h ⊢
 rw[zJ0 32 w [] l hn,List.nil_append]
 split at h
 ·rename_i h1
  cases h
  rw[List.all_cons,hw,h1,if_pos (by rfl)]
 ·cases h
theorem zFX {w:List UInt8} (hw:zCx w=true) (hn:(32:UInt8)∉w):lineF w=some [w]:=by
 unfold lineF
 rw[zPF 32 w [] hn,List.nil_append,List.all_cons,hw,if_pos (by rfl)]
theorem zOs (b:UInt8):∀ (s acc:List UInt8),Lib.join (splL b acc s) [b]=acc++s:=by
 intro s
 induction s with
 | nil=>intro acc;rw[splL,Lib.join_one,List.append_nil]
 | cons c s ih=>
   intro acc
   by_cases h:c=b
   ·subst h
    rw[zBO]
    obtain ⟨p,l,h1,_⟩:=zGW c s []
    have h2:=ih []
    rw[h1] at h2 ⊢
    rw[Lib.join_cons] at h2 ⊢
    rw[List.nil_append] at h2
    rw[←h2]
    simp[Lib.joinTail]
   ·rw[zAu h,ih,List.append_assoc];rfl
theorem zGo (s:ByteArray):joinS ((splL 32 [] s.data.toList).map mkB)=s:=by
 unfold joinS
 rw[List.map_map,show (fun x:ByteArray=>x.data.toList) ∘ mkB=id from rfl,List.map_id,zOs 32 s.data.toList [],List.nil_append,zDh]
def GoodW (s:List UInt8):Prop:=(splL 32 [] s).all zCx=true∧(10:UInt8)∉s
theorem zE1 {a b:List UInt8} (ha:GoodW a) (hb:GoodW b):GoodW (a++32::b):=by
 refine ⟨by rw[zE4,List.all_append,ha.1,hb.1];rfl,?_⟩
 intro h
 rcases List.mem_append.1 h with h|h
 ·exact ha.2 h
 ·rcases List.mem_cons.1 h with h|h
  ·exact absurd h (by decide)
  ·exact hb.2 h
theorem zFO {w:List UInt8} (h0:w≠[]) (h:∀ c∈w,visB c=true):GoodW w:=by
 have h1:(32:UInt8)∉w:=fun hm=>absurd (h _ hm) (by decide)
 have h2:(10:UInt8)∉w:=fun hm=>absurd (h _ hm) (by decide)
 refine ⟨?_,h2⟩
 rw[zPF 32 w [] h1,List.nil_append,List.all_cons]
 unfold zCx
 rw[List.all_eq_true.2 h]
 cases w with
 | nil=>exact absurd rfl h0
 | cons c w=>rfl
theorem zIz {v:Ver} (h:v.ok=true):v.txt.data.toList≠[]∧∀ c∈v.txt.data.toList,visB c=true:=by
 constructor
 ·intro e
  have:=zNH h
  rw[e] at this
  exact absurd this (by unfold pAll;simp)
 ·intro c hc
  rcases txt_bytes h c hc with rfl|⟨h1,h2⟩
  ·decide
  ·unfold visB;rw[decide_eq_true (show 33≤c.toNat by omega),decide_eq_true (show c.toNat≤126 by omega)];rfl
theorem zFa {g:List UInt8} {v:Ver} (hg:∀ c∈g,visB c=true) (h:v.ok=true):GoodW (g++v.txt.data.toList):=by
 obtain ⟨h1,h2⟩:=zIz h
 refine zFO (by intro e;exact h1 (List.append_eq_nil_iff.1 e).2) fun c hc=>?_
 rcases List.mem_append.1 hc with hc|hc
 ·exact hg c hc
 ·exact h2 c hc
theorem zI5 {s:Spn} (hlo:s.lo.ok=true) (hhi:s.hi.ok=true):GoodW (zAP s).data.toList:=by
 unfold zAP
 split
 ·exact zFa (g:=[]) (fun c hc=>by cases hc) hlo
 ·split
  ·split
   ·exact zFO (by decide) (by decide)
   ·have e:(leB++s.hi.text).data.toList=[60,61]++s.hi.txt.data.toList:=by simp[leB];rfl
    rw[e];exact zFa (by decide) hhi
  ·split
   ·have e:(geB++s.lo.text).data.toList=[62,61]++s.lo.txt.data.toList:=by simp[geB];rfl
    rw[e];exact zFa (by decide) hlo
   ·have e:(geB++s.lo.text++andB++s.hi.text).data.toList=([62,61]++s.lo.txt.data.toList)++32::([60,61]++s.hi.txt.data.toList):=by
     rw[show s.lo.text=s.lo.txt from rfl,show s.hi.text=s.hi.txt from rfl]
     simp[geB,andB]
    rw[e];exact zE1 (zFa (by decide) hlo) (zFa (by decide) hhi)
theorem zQU:∀ (l:List Spn),l≠[]→(∀ s∈l,s.lo.ok=true∧s.hi.ok=true)→GoodW (Lib.join (l.map fun s=>(zAP s).data.toList) [32,124,124,32]):=by
 intro l
 induction l with
 | nil=>intro h;exact absurd rfl h
 | cons s l ih=>
   intro _ hok
   have hs:=zI5 (hok s (by simp)).1 (hok s (by simp)).2
   rw[List.map_cons,Lib.join_cons]
   cases l with
   | nil=>simp only[List.map_nil,Lib.joinTail,List.flatten_nil,List.append_nil];exact hs
   | cons t l=>
     have e:(zAP s).data.toList++Lib.joinTail [32,124,124,32] ((t::l).map fun s=>(zAP s).data.toList) =
       (zAP s).data.toList++32::([124,124]++32::Lib.join ((t::l).map fun s=>(zAP s).data.toList) [32,124,124,32]):=by
      rw[List.map_cons,Lib.join_cons]
      simp[Lib.joinTail]
     rw[e]
     exact zE1 hs (zE1 (zFO (by decide) (by decide)) (ih (by simp) fun x hx=>hok x (by simp[hx])))
theorem zHy {l:List Spn} (h:zAp l=true):GoodW (zAO l).data.toList:=by
 unfold zAO
 rw[if_pos h]
 by_cases h0:l=[]
 ·rw[if_pos h0];exact zFO (by decide) (by decide)
 ·rw[if_neg h0]
  have:=zQU l h0 (zDI h).2.1
  unfold joinB
  rw[List.map_map]
  exact this
theorem zFB {s:ByteArray} (h:nameB s=true):s.data.toList≠[]∧∀ c∈s.data.toList,visB c=true:=by
 have h':nameL s.data.toList=true:=h
 have h0:s.data.toList≠[]:=by
  intro e;rw[e] at h';exact absurd h' (by decide)
 refine ⟨h0,fun c hc=>?_⟩
 rw[zMg _ h0,Bool.and_eq_true] at h'
 have hall:s.data.toList.all nameC=true:=by
  obtain ⟨h1,_⟩:=h'
  cases hl:s.data.toList with
  | nil=>exact absurd hl h0
  | cons d r=>
    rw[hl,zIK,Bool.and_eq_true] at h1
    rw[List.all_cons,Bool.and_eq_true]
    refine ⟨?_,?_⟩
    ·unfold nameC
     have:=h1.1
     simp at this
     rw[this];rfl
    ·rw[←zIW r 1 (by decide)];exact h1.2
 have:=List.all_eq_true.1 hall c hc
 unfold nameC zBt zMo at this
 unfold visB
 simp only[Bool.or_eq_true,Bool.and_eq_true,decide_eq_true_eq] at this ⊢
 omega
def lineW (word:ByteArray) (d:Dep):List ByteArray:=word::d.name::(splL 32 [] (zAO d.range).data.toList).map mkB
def GoodB (w:ByteArray):Prop:=w.data.toList≠[]∧∀ c∈w.data.toList,visB c=true
theorem zOT {w:List UInt8} (h:GoodW w):lineF w=some (splL 32 [] w):=by unfold lineF;rw[if_pos h.1]
theorem zDy {w:List UInt8} (h:∀ c∈w,visB c=true):(32:UInt8)∉w∧(10:UInt8)∉w:=⟨fun hm=>absurd (h _ hm) (by decide),fun hm=>absurd (h _ hm) (by decide)⟩
theorem zCS {w:List UInt8} (h0:w≠[]) (h:∀ c∈w,visB c=true):zCx w=true:=by
 unfold zCx
 rw[List.all_eq_true.2 h]
 cases w with
 | nil=>exact absurd rfl h0
 | cons c w=>rfl
theorem zLx {word:ByteArray} {d:Dep} {t:List UInt8} (hw:GoodB word) (hn:nameB d.name=true) (hr:zAp d.range=true) :
  zCB ((lineD word d).data.toList++t)=(zCB t).map ((word.data.toList::d.name.data.toList::splL 32 [] (zAO d.range).data.toList)::·):=by
 have hnm:=zFB hn
 have hg:=zHy hr
 obtain ⟨w1,w2⟩:=zDy hw.2
 obtain ⟨n1,n2⟩:=zDy hnm.2
 have e:(lineD word d).data.toList++t=(word.data.toList++32::(d.name.data.toList++32::(zAO d.range).data.toList))++10::t:=by
  unfold lineD
  simp[zAH,nlB]
 rw[e,zCn (by
  simp only[List.mem_append,List.mem_cons,not_or]
  exact ⟨w2,by decide,n2,by decide,hg.2⟩)]
 rw[zCl (zCS hw.1 hw.2) w1 (zCl (zCS hnm.1 hnm.2) n1 (zOT hg))]
theorem zBW {word:ByteArray} (hw:GoodB word):∀ (l:List Dep) (t:List UInt8),(∀ d∈l,nameB d.name=true∧zAp d.range=true) →
  zCB ((zAN word l).data.toList++t)=(zCB t).map ((l.map fun d=>word.data.toList::d.name.data.toList::splL 32 [] (zAO d.range).data.toList)++·):=by
 intro l
 induction l with
 | nil=>
   intro t _
   have:(zAN word []).data.toList=[]:=rfl
   rw[this,List.nil_append,List.map_nil]
   simp
 | cons d l ih=>
   intro t h
   have e:(zAN word (d::l)).data.toList++t=(lineD word d).data.toList++((zAN word l).data.toList++t):=by
    show ((lineD word d++zAN word l).data.toList)++t=_
    simp
   rw[e,zLx hw (h d (by simp)).1 (h d (by simp)).2,ih t fun x hx=>h x (by simp[hx]),Option.map_map]
   rfl
theorem zO6 {word:ByteArray} {d:Dep} {prev:Option ByteArray} (hn:nameB d.name=true) (hb:behind prev d.name=true) (hr:zAp d.range=true) (h0:d.range≠[]):depE prev (lineW word d)=.ok d:=by
 obtain ⟨p,l,h1,_⟩:=zGW 32 (zAO d.range).data.toList []
 have hj:=zGo (zAO d.range)
 unfold lineW
 rw[h1] at hj ⊢
 rw[List.map_cons] at hj ⊢
 unfold depE
 simp only
 rw[hn,hb,Bool.and_self,if_pos rfl,hj,zNl hr,if_pos ⟨rfl,h0⟩]
theorem zOQ (l:List Dep) (d:Dep):zAY (l++[d])=some d.name:=by unfold zAY;rw[List.getLast?_append];rfl
theorem zCw {order:List ByteArray} {word:ByteArray} {j:Nat} (hidx:∀ a,a≤j→idxGo (order.drop a) word=some (j - a)):∀ (l:List Dep) (a:Nat) (out:List (List Dep)) (pre:List Dep) (rest:List (List ByteArray)),a≤j→out[j]?=some pre→zBL (zAY pre) l=true →
  listsE order (l.map (lineW word)++rest) (a,out)=listsE order rest (if l=[] then a else j,out.set j (pre++l)):=by
 intro l
 induction l with
 | nil=>
   intro a out pre rest _ ho _
   have:out.set j pre=out:=by
    obtain ⟨hj,rfl⟩:=gS.1 ho
    exact List.set_getElem_self hj
   rw[List.map_nil,List.nil_append,if_pos rfl,List.append_nil,this]
 | cons d l ih=>
   intro a out pre rest ha ho hl
   unfold zBL at hl
   simp only[Bool.and_eq_true,decide_eq_true_eq] at hl
   obtain ⟨⟨h1,h2,h3,h4⟩,h5⟩:=hl
   obtain ⟨hj,hpre⟩:=gS.1 ho
   have hgd:out.getD (a+(j - a)) []=pre:=by
    rw[show a+(j - a)=j by omega,List.getD_eq_getElem?_getD,ho];rfl
   have hst:zDF order (a,out) (lineW word d)=.ok (j,out.set j (pre++[d])):=by
    unfold zDF
    simp only[show (lineW word d).headD ⟨#[]⟩=word from rfl,hidx a ha,hgd]
    rw[zO6 h1 h4 h2 (by intro e;rw[e] at h3;exact h3 rfl)]
    simp only[show a+(j - a)=j by omega]
   rw[List.map_cons,List.cons_append,listsE,hst]
   simp only
   rw[ih j (out.set j (pre++[d])) (pre++[d]) rest (nR _) (by rw[List.getElem?_set_self hj]) (by rw[zOQ];exact h5),List.set_set,List.append_assoc,show (if l=[] then j else j)=j by split<;>rfl,if_neg (show ¬(d::l=[]) by simp)]
   rfl
theorem zBP {l:List Dep} (h:listB l=true):zBL none l=true∧∀ d∈l,nameB d.name=true∧zAp d.range=true:=by
 unfold listB at h
 rw[Bool.and_eq_true] at h
 exact ⟨h.1,zIw h.1⟩
theorem zRd:(∀ a,a≤0→idxGo (zAy.drop a) zBR=some (0 - a))∧(∀ a,a≤1→idxGo (zAy.drop a) zCp=some (1 - a))∧(∀ a,a≤2→idxGo (zAy.drop a) zBi=some (2 - a)):=by
 refine ⟨fun a h=>?_,fun a h=>?_,fun a h=>?_⟩
 ·obtain rfl:a=0:=by omega
  rfl
 ·have:a=0∨a=1:=by omega
  rcases this with rfl|rfl<;>rfl
 ·have:a=0∨a=1∨a=2:=by omega
  rcases this with rfl|rfl|rfl<;>rfl
theorem zQM (word:ByteArray) (d:Dep):(word.data.toList::d.name.data.toList::splL 32 [] (zAO d.range).data.toList).map mkB=lineW word d:=by
 rw[List.map_cons,List.map_cons,zDh,zDh];rfl
theorem zIA {p:Pack} (h:packB p=true):zEC (zAW p)=some ([packageW,p.name,p.ver.txt]::(p.deps.map (lineW zBR)++(p.peers.map (lineW zCp)++(p.opts.map (lineW zBi)++[])))):=by
 unfold packB at h
 simp only[Bool.and_eq_true,decide_eq_true_eq] at h
 obtain ⟨hn,hv,hd,hp,ho,_,_⟩:=h
 have hnm:=zFB hn
 have hvv:=zIz (v:=p.ver) hv
 obtain ⟨n1,n2⟩:=zDy hnm.2
 obtain ⟨v1,v2⟩:=zDy hvv.2
 have e:(zAW p).data.toList=(packageW.data.toList++32::(p.name.data.toList++32::p.ver.txt.data.toList))++10::((zAN zBR p.deps).data.toList++((zAN zCp p.peers).data.toList++((zAN zBi p.opts).data.toList++[]))):=by
  unfold zAW zDU
  rw[show zAj p.ver.major p.ver.minor p.ver.patch=p.ver.txt from rfl]
  simp[packW,packageW,zAH,nlB]
 unfold zEC
 rw[e,zCn (by
  simp only[List.mem_append,List.mem_cons,not_or]
  exact ⟨by decide,by decide,n2,by decide,v2⟩)]
 rw[zCl (by decide) (by decide) (zCl (zCS hnm.1 hnm.2) n1 (zFX (zCS hvv.1 hvv.2) v1))]
 rw[zBW (by unfold GoodB;decide) _ _ (zBP hd).2,zBW (by unfold GoodB;decide) _ _ (zBP hp).2,zBW (by unfold GoodB;decide) _ _ (zBP ho).2]
 rw[show zCB []=some [] from rfl]
 simp only[Option.map_some,List.map_cons,List.map_append,List.map_nil,List.map_map,zDh]
 have key:∀ (word:ByteArray) (l:List Dep),l.map ((fun w=>w.map mkB) ∘ fun d=>word.data.toList::d.name.data.toList::splL 32 [] (zAO d.range).data.toList)=l.map (lineW word):=fun word l=>List.map_congr_left fun d _=>zQM word d
 rw[key,key,key]
theorem zGp {p:Pack} (h:packB p=true):packE (zAW p)=.ok p:=by
 have hl:=zIA h
 have hb:=h
 unfold packB at h
 simp only[Bool.and_eq_true,decide_eq_true_eq] at h
 obtain ⟨hn,hv,hd,hp,ho,_,hz⟩:=h
 have hs:scanQ 4096 (zAW p)=([packageW,p.name,p.ver.txt]::(p.deps.map (lineW zBR)++(p.peers.map (lineW zCp)++(p.opts.map (lineW zBi)++[]))),0):=by
  unfold scanQ
  rw[if_neg (by omega),hl]
 obtain ⟨i1,i2,i3⟩:=zRd
 have hli:listsE zAy (p.deps.map (lineW zBR)++(p.peers.map (lineW zCp)++(p.opts.map (lineW zBi)++[]))) (0,[[],[],[]])=.ok [p.deps,p.peers,p.opts]:=by
  rw[zCw i1 p.deps 0 [[],[],[]] [] _ (nR _) rfl (zBP hd).1]
  rw[show (if p.deps=[] then 0 else 0)=0 by split<;>rfl]
  rw[zCw i2 p.peers 0 _ [] _ (by decide) rfl (zBP hp).1]
  have hle:(if p.peers=[] then 0 else 1)≤2:=by split<;>decide
  rw[zCw i3 p.opts _ _ [] _ hle rfl (zBP ho).1,listsE]
  rfl
 unfold packE
 rw[hs,if_neg (by simp)]
 simp only
 rw[if_neg (by simp),hn,if_neg (by decide),zBq (v:=p.ver) hv rfl]
 simp only
 rw[hli]
 simp only
 rw[if_pos hb]
theorem zKE {p q:Pack} (hp:packB p=true) (hq:packB q=true):zAW p=zAW q↔p=q:=by
 refine ⟨fun h=>?_,fun h=>by rw[h]⟩
 have h1:=zGp hp
 rw[h,zGp hq] at h1
 exact (Except.ok.inj h1).symm
theorem zRY {t:ByteArray} {p:Pack} (h:packE t=.ok p):packB p=true:=by
 unfold packE at h
 split at h
 ·cases h
 ·split at h
  ·split at h
   ·cases h
   ·split at h
    ·cases h
    ·split at h
     ·cases h
     ·split at h
      ·cases h
      ·split at h
       ·cases h;assumption
       ·cases h
      ·cases h
  ·cases h
noncomputable def packQ (t:ByteArray):Pack×Int:=match packE t with
 | .error k=>(packZ,k)
 | .ok p=>(p,0)
end Go.Proofs.YthbnmehbhpakaaaGreatDoor
namespace Go.Proofs.YthbnmehbhpakaaaGreatDoor
open Go.ChangeShapes Go.WideShapes Go.ChangeAt Go.RowKit
structure Mani where
 deps:List Dep
 dev:List Dep
 opts:List Dep
 over:List Dep
def rMani:Rp Mani where
 size:=4
 holds:=fun w S x cs=>∃ s0 s1 s2 s3,cs=[s0,s1,s2,s3]∧SlV rDep w S x.deps s0∧SlV rDep w S x.dev s1∧SlV rDep w S x.opts s2∧SlV rDep w S x.over s3
 len:=fun ⟨s0,s1,s2,s3,h,c0,c1,c2,c3⟩=>by rw[h];rfl
 one:=fun ⟨s0,s1,s2,s3,h,c0,c1,c2,c3⟩=>by obtain ⟨_,_,rfl,_⟩:=c0.val;obtain ⟨_,_,rfl,_⟩:=c1.val;obtain ⟨_,_,rfl,_⟩:=c2.val;obtain ⟨_,_,rfl,_⟩:=c3.val;rw[h];simp[Value.oneCell']
 mono:=fun ⟨s0,s1,s2,s3,h,c0,c1,c2,c3⟩ hk=>⟨s0,s1,s2,s3,h,(zAL rDep).mono c0 hk,(zAL rDep).mono c1 hk,(zAL rDep).mono c2 hk,(zAL rDep).mono c3 hk⟩
def zNQ (x:Mani):Nat:=1+bkL bkDep x.deps+bkL bkDep x.dev+bkL bkDep x.opts+bkL bkDep x.over
theorem zL8:zCC Tryz.prog 24 rMani zNQ:=by
 intro H enc w base fuel cs x h
 obtain ⟨xs,n,rfl,rfl,hlen,hxl,hf⟩:=DataW.trod_struct Tryz.underlying24 h
 rw[show Tryz.prog.cellsOf 24=4 from by kernel_rfl] at hlen
 match cs,hlen with
 | [c0,c1,c2,c3],_=>
   have k0:Tryz.prog.cellsOf 22=1:=by kernel_rfl
   have f0:=hf 0 _ rfl
   have f1:=hf 1 _ rfl
   have f2:=hf 2 _ rfl
   have f3:=hf 3 _ rfl
   match xs,hxl with
   | [x0,x1,x2,x3],_=>
     simp[k0] at f0 f1 f2 f3
     obtain ⟨y0,g0,b0⟩:=zAl (e:=158) Tryz.underlying22 (r:=rDep) (by kernel_rfl) (by decide) zCJ H enc w base n [c0] x0 f0
     obtain ⟨y1,g1,b1⟩:=zAl (e:=158) Tryz.underlying22 (r:=rDep) (by kernel_rfl) (by decide) zCJ H enc w base n [c1] x1 f1
     obtain ⟨y2,g2,b2⟩:=zAl (e:=158) Tryz.underlying22 (r:=rDep) (by kernel_rfl) (by decide) zCJ H enc w base n [c2] x2 f2
     obtain ⟨y3,g3,b3⟩:=zAl (e:=158) Tryz.underlying22 (r:=rDep) (by kernel_rfl) (by decide) zCJ H enc w base n [c3] x3 f3
     refine ⟨⟨y0,y1,y2,y3⟩,⟨_,_,_,_,rfl,g0,g1,g2,g3⟩,?_⟩
     simp only[zNQ,Rows.uptoBulk,Rows.uptoBulkAll,List.map_cons,List.map_nil] at *
     omega
end Go.Proofs.YthbnmehbhpakaaaGreatDoor
namespace Go.Proofs.YthbnmehbhpakaaaGreatDoor
def devW:ByteArray:=⟨#[100,101,118]⟩
def pinsW:ByteArray:=⟨#[112,105,110,115]⟩
def zA5:ByteArray:=⟨#[112,114,111,106,101,99,116]⟩
def zAn:List ByteArray:=[zBR,devW,zBi,pinsW]
def zAR (m:Mani):ByteArray:=zA5++nlB++zAN zBR m.deps++zAN devW m.dev++zAN zBi m.opts++zAN pinsW m.over
noncomputable def maniB (m:Mani):Bool:=
 listB m.deps&&(listB m.dev&&(listB m.opts&&(listB m.over&&(zCQ (zAM [m.deps,m.dev,m.opts])&&decide ((zAR m).size≤4096)))))
noncomputable def maniE (t:ByteArray):Except Int Mani:=
 if (scanQ 4096 t).2≠0 then .error (scanQ 4096 t).2 else match (scanQ 4096 t).1 with
 | [w0]::rest=>if w0.data.toList≠zA5.data.toList then .error 22 else match listsE zAn rest (0,[[],[],[],[]]) with
     | .error e=>.error e
     | .ok [d,v,o,p]=>if maniB ⟨d,v,o,p⟩=true then .ok ⟨d,v,o,p⟩ else .error 25
     | .ok _=>.error 0
 | _=>.error 22
theorem zRW:(∀ a,a≤0→idxGo (zAn.drop a) zBR=some (0 - a))∧(∀ a,a≤1→idxGo (zAn.drop a) devW=some (1 - a))∧(∀ a,a≤2→idxGo (zAn.drop a) zBi=some (2 - a))∧(∀ a,a≤3→idxGo (zAn.drop a) pinsW=some (3 - a)):=by
 refine ⟨fun a h=>?_,fun a h=>?_,fun a h=>?_,fun a h=>?_⟩
 ·obtain rfl:a=0:=by omega
  rfl
 ·have:a=0∨a=1:=by omega
  rcases this with rfl|rfl<;>rfl
 ·have:a=0∨a=1∨a=2:=by omega
  rcases this with rfl|rfl|rfl<;>rfl
 ·have:a=0∨a=1∨a=2∨a=3:=by omega
  rcases this with rfl|rfl|rfl|rfl<;>rfl
theorem zHs {m:Mani} (h:maniB m=true):zEC (zAR m)=some ([zA5]::(m.deps.map (lineW zBR)++(m.dev.map (lineW devW)++(m.opts.map (lineW zBi)++(m.over.map (lineW pinsW)++[]))))):=by
 unfold maniB at h
 simp only[Bool.and_eq_true,decide_eq_true_eq] at h
 obtain ⟨hd,hv,ho,hp,_,_⟩:=h
 have e:(zAR m).data.toList=zA5.data.toList++10::((zAN zBR m.deps).data.toList++((zAN devW m.dev).data.toList++((zAN zBi m.opts).data.toList++((zAN pinsW m.over).data.toList++[])))):=by
  unfold zAR
  simp[nlB]
 unfold zEC
 rw[e,zCn (by decide)]
 rw[zFX (by decide) (by decide)]
 rw[zBW (by unfold GoodB;decide) _ _ (zBP hd).2,zBW (by unfold GoodB;decide) _ _ (zBP hv).2,zBW (by unfold GoodB;decide) _ _ (zBP ho).2,zBW (by unfold GoodB;decide) _ _ (zBP hp).2]
 rw[show zCB []=some [] from rfl]
 simp only[Option.map_some,List.map_cons,List.map_append,List.map_nil,List.map_map,zDh]
 have key:∀ (word:ByteArray) (l:List Dep),l.map ((fun w=>w.map mkB) ∘ fun d=>word.data.toList::d.name.data.toList::splL 32 [] (zAO d.range).data.toList)=l.map (lineW word):=fun word l=>List.map_congr_left fun d _=>zQM word d
 rw[key,key,key,key]
theorem zHl {m:Mani} (h:maniB m=true):maniE (zAR m)=.ok m:=by
 have hl:=zHs h
 have hb:=h
 unfold maniB at h
 simp only[Bool.and_eq_true,decide_eq_true_eq] at h
 obtain ⟨hd,hv,ho,hp,_,hz⟩:=h
 have hs:scanQ 4096 (zAR m)=([zA5]::(m.deps.map (lineW zBR)++(m.dev.map (lineW devW)++(m.opts.map (lineW zBi)++(m.over.map (lineW pinsW)++[])))),0):=by
  unfold scanQ
  rw[if_neg (by omega),hl]
 obtain ⟨i1,i2,i3,i4⟩:=zRW
 have hli:listsE zAn (m.deps.map (lineW zBR)++(m.dev.map (lineW devW)++(m.opts.map (lineW zBi)++(m.over.map (lineW pinsW)++[])))) (0,[[],[],[],[]])=.ok [m.deps,m.dev,m.opts,m.over]:=by
  rw[zCw i1 m.deps 0 [[],[],[],[]] [] _ (nR _) rfl (zBP hd).1]
  rw[show (if m.deps=[] then 0 else 0)=0 by split<;>rfl]
  rw[zCw i2 m.dev 0 _ [] _ (by decide) rfl (zBP hv).1]
  obtain ⟨a2,ha2,hle2⟩:∃ a2,a2=(if m.dev=[] then 0 else 1)∧a2≤2:=⟨_,rfl,by split<;>decide⟩
  rw[←ha2]
  rw[zCw i3 m.opts a2 _ [] _ hle2 rfl (zBP ho).1]
  obtain ⟨a3,ha3,hle3⟩:∃ a3,a3=(if m.opts=[] then a2 else 2)∧a3≤3:=⟨_,rfl,by split<;>omega⟩
  rw[←ha3]
  rw[zCw i4 m.over a3 _ [] _ hle3 rfl (zBP hp).1,listsE]
  rfl
 unfold maniE
 rw[hs,if_neg (by simp)]
 simp only
 rw[if_neg (by simp),hli]
 simp only
 rw[if_pos hb]
theorem zK3 {m n:Mani} (hm:maniB m=true) (hn:maniB n=true):zAR m=zAR n↔m=n:=by
 refine ⟨fun h=>?_,fun h=>by rw[h]⟩
 have h1:=zHl hm
 rw[h,zHl hn] at h1
 exact (Except.ok.inj h1).symm
theorem zG4 {b:UInt8} (h:nameC b=true):(b != 47)=true:=by
 have H:∀ b:UInt8,(!nameC b||(b != 47))=true:=zGs (by decide +kernel)
 have:=H b
 rw[h] at this;simpa using this
theorem zCE {l:List UInt8} (h:nameL l=true):∀ b∈l,(b != 47)=true:=by
 cases l with
 | nil=>intro b hb;cases hb
 | cons c t=>
   simp only[nameL,Bool.and_eq_true] at h
   intro b hb
   rcases List.mem_cons.1 hb with rfl|hb
   ·exact zG4 (by unfold nameC;rw[h.1.1];rfl)
   ·exact zG4 (List.all_eq_true.1 h.1.2 b hb)
theorem zGf:∀ (t:List ByteArray),zAi t=[]∨∃ r,zAi t=47::r:=by
 intro t
 cases t with
 | nil=>exact .inl rfl
 | cons s t=>exact .inr ⟨_,rfl⟩
theorem zCM {l r:List UInt8} (h:∀ b∈l,(b != 47)=true) (hr:r=[]∨∃ q,r=47::q):(l++r).takeWhile (· != 47)=l:=by
 induction l with
 | nil=>
   rcases hr with rfl|⟨q,rfl⟩
   ·rfl
   ·rfl
 | cons c l ih=>
   rw[List.cons_append,List.takeWhile_cons,if_pos (h c (by simp)),ih fun b hb=>h b (by simp[hb])]
theorem zOv:∀ {a b:List ByteArray},a.all nameB=true→b.all nameB=true→zAi a=zAi b→a=b:=by
 intro a
 induction a with
 | nil=>
   intro b _ _ h
   cases b with
   | nil=>rfl
   | cons s t=>cases h
 | cons s t ih=>
   intro b ha hb h
   cases b with
   | nil=>cases h
   | cons u v=>
     rw[List.all_cons,Bool.and_eq_true] at ha hb
     rw[zAi,zAi,List.append_assoc,List.append_assoc] at h
     have h1:=List.append_cancel_left h
     have e1:=zCM (zCE ha.1) (zGf t)
     have e2:=zCM (zCE hb.1) (zGf v)
     rw[h1,e2] at e1
     rw[e1] at h1
     have h2:=List.append_cancel_left h1
     have hs:s=u:=ByteArray.ext (Array.ext' e1.symm)
     rw[hs,ih ha.2 hb.2 h2]
noncomputable def zCR (s:ByteArray):Option (List ByteArray):=
 @dite _ (∃ p:List ByteArray,p≠[]∧p.all nameB=true∧zAi p=s.data.toList) (Classical.propDecidable _) (fun h=>some h.choose) (fun _=>none)
theorem zEs {s:ByteArray} {p:List ByteArray} (h0:p≠[]) (h1:p.all nameB=true) (h2:zAi p=s.data.toList):zCR s=some p:=by
 have h:∃ p:List ByteArray,p≠[]∧p.all nameB=true∧zAi p=s.data.toList:=⟨p,h0,h1,h2⟩
 unfold zCR
 rw[dif_pos h]
 have hc:=h.choose_spec
 exact congrArg some (zOv hc.2.1 h1 (hc.2.2.trans h2.symm))
theorem zML {s:ByteArray} (h:∀ p:List ByteArray,p≠[]→p.all nameB=true→zAi p≠s.data.toList):zCR s=none:=by
 unfold zCR
 rw[dif_neg]
 rintro ⟨p,h0,h1,h2⟩
 exact h p h0 h1 h2
theorem zDj {s:ByteArray} {p:List ByteArray} (h:zCR s=some p):p≠[]∧p.all nameB=true∧zAi p=s.data.toList:=by
 by_cases e:∃ p:List ByteArray,p≠[]∧p.all nameB=true∧zAi p=s.data.toList
 ·obtain ⟨q,h0,h1,h2⟩:=e
  rw[zEs h0 h1 h2] at h
  cases h
  exact ⟨h0,h1,h2⟩
 ·rw[zML fun q h0 h1 h2=>e ⟨q,h0,h1,h2⟩] at h
  cases h
theorem zKa {s:ByteArray} {p:List ByteArray} (h:zCR s=some p):textB p=s:=by
 obtain ⟨h0,h1,h2⟩:=zDj h
 unfold textB
 rw[if_neg h0,if_pos h1]
 exact ByteArray.ext (Array.ext' h2)
