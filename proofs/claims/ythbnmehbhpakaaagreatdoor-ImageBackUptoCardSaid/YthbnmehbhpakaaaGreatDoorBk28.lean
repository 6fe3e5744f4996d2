/- A run never takes back what it has drawn: over any program, any machine. -/
import Derived.Calls
import Derived.Lib.QuietBelow
import Derived.Test.YthbnmehbhpakaaaGreatDoorBk26
import Derived.Test.YthbnmehbhpakaaaGreatDoorBk09
import Derived.Test.YthbnmehbhpakaaaGreatDoorBk02
import Derived.Test.YthbnmehbhpakaaaGreatDoorAl
set_option linter.all false
set_option maxHeartbeats 1600000
set_option maxRecDepth 100000
namespace Go.Proofs.YthbnmehbhpakaaaGreatDoor
open Go Go.RowKit
def wdR {α:Type}:Result α→World
 | .ok _ w=>w
 | .halt _ w=>w
theorem zTL {α:Type} (a:Ask α):∀ (w:World),w.drawn≤(w.ask a).2.drawn:=by
 induction a with
 | done a=>intro w;exact nR _
 | ask what range k ih=>
   intro w
   rw[World.ask]
   split
   ·exact ih _ w
   ·exact nT (Nat.le_succ _) (ih _ { w with drawn:=w.drawn+1})
theorem zSM (w:World) (c:Sys):w.drawn≤(w.sys c).2.drawn:=by
 unfold World.sys
 split
 ·exact nR _
 ·rename_i h
  have:=zTL (Kernel.perform c w.os) w
  rw[h] at this
  exact this
theorem zH4 {P:Program} {w w':World} {at_:Addr} {u:TypeId} {k:Addr} {v:Value} {b:Bool} {l:List Addr} (h:w.viewStore P at_ u k v b=.ok (w',l)):w'.drawn=w.drawn:=by
 unfold World.viewStore at h
 simp only[bind,Except.bind,pure,Except.pure,throw,throwThe,MonadExceptOf.throw,MonadExcept.throw] at h
 repeat' split at h
 all_goals first
  | (cases h;done)
  | (cases h;rfl)
theorem zFC {P:Program} {w w':World} {a:Addr} {v:Value} {b:Bool} {l:List Addr} (h:w.farStore P a v b=.ok (w',l)):w'.drawn=w.drawn:=by
 unfold World.farStore at h
 split at h
 ·split at h
  ·rename_i h2
   cases h
   exact zH4 h2
  ·cases h
 ·cases h
theorem zGz (w:World) (a:Addr) (n:Nat):(w.freeze a n).drawn=w.drawn:=by
 unfold World.freeze
 split<;>rfl
theorem zQC {α:Type} (P:Program) (s:Sem α):∀ w:World,w.drawn≤(wdR (s.run P w)).drawn:=by
 induction s with
 | pure a=>intro w;exact nR _
 | load m a k ih=>
   intro w
   unfold Sem.run
   split
   ·exact ih _ w
   ·split
    ·exact ih _ w
    ·exact nR _
 | store m a v k ih=>
   intro w
   rw[Sem.run.eq_def]
   split
   all_goals (rename_i heq;first|(cases heq;done)|cases heq)
   all_goals first
    | exact nR _
    | skip
   split
   ·split
    ·exact nR _
    ·exact ih (World.setCell _ _ _)
   ·split
    ·rename_i h
     exact nT (Nat.le_of_eq (zFC h).symm) (ih _)
    ·exact nR _
 | new o k ih=>intro w;exact ih _ { w with heap:=w.heap.push o}
 | shape r k ih=>intro w;exact ih _ w
 | freeze a n k ih=>intro w;have:=ih (w.freeze a n);rw[zGz] at this;exact this
 | frozen a k ih=>intro w;exact ih _ w
 | getObj r k ih=>
   intro w
   unfold Sem.run
   split
   ·exact nR _
   ·exact ih _ w
   ·exact nR _
 | setObj r o k ih=>
   intro w
   unfold Sem.run
   split
   ·exact nR _
   ·exact ih { w with heap:=w.heap.setIfInBounds r o}
   ·exact nR _
 | choose q k ih=>
   intro w
   unfold Sem.run
   split
   ·exact ih _ w
   ·exact nT (Nat.le_succ _) (ih _ { w with drawn:=w.drawn+1})
 | sys c k ih=>intro w;exact nT (zSM w c) (ih _ _)
 | program k ih=>intro w;exact ih _ w
 | mark m k ih=>intro w;exact ih w
 | halt h=>intro w;exact nR _
theorem zJB {α:Type} (P:Program) (s:Sem α):∀ (w:World) (es:Array Event),w.drawn≤(wdR (s.runT P w es).1).drawn:=by
 induction s with
 | pure a=>intro w es;exact nR _
 | load m a k ih=>
   intro w es
   unfold Sem.runT
   split
   ·exact ih _ w _
   ·split
    ·exact ih _ w _
    ·exact nR _
 | store m a v k ih=>
   intro w es
   rw[Sem.runT.eq_def]
   split
   all_goals (rename_i heq;first|(cases heq;done)|cases heq)
   all_goals first
    | exact nR _
    | skip
   split
   ·split
    ·exact nR _
    ·exact ih (World.setCell _ _ _) _
   ·split
    ·rename_i h
     exact nT (Nat.le_of_eq (zFC h).symm) (ih _ _)
    ·exact nR _
 | new o k ih=>intro w es;exact ih _ { w with heap:=w.heap.push o} _
 | shape r k ih=>intro w es;exact ih _ w _
 | freeze a n k ih=>intro w es;have:=ih (w.freeze a n) es;rw[zGz] at this;exact this
 | frozen a k ih=>intro w es;exact ih _ w _
 | getObj r k ih=>
   intro w es
   unfold Sem.runT
   split
   ·exact nR _
   ·exact ih _ w _
   ·exact nR _
 | setObj r o k ih=>
   intro w es
   unfold Sem.runT
   split
   ·exact nR _
   ·exact ih { w with heap:=w.heap.setIfInBounds r o} _
   ·exact nR _
 | choose q k ih=>
   intro w es
   unfold Sem.runT
   split
   ·exact ih _ w _
   ·exact nT (Nat.le_succ _) (ih _ { w with drawn:=w.drawn+1} _)
 | sys c k ih=>intro w es;exact nT (zSM w c) (ih _ _ _)
 | program k ih=>intro w es;exact ih _ w _
 | mark m k ih=>intro w es;exact ih w _
 | halt h=>intro w es;exact nR _
theorem zBG {α:Type} {P:Program} {s:Sem α} {w w':World} {a:α} (h:s.run P w=.ok a w'):w.drawn≤w'.drawn:=by
 have:=zQC P s w
 rw[h] at this
 exact this
theorem zRi {α:Type} {P:Program} {s:Sem α} {w w':World} {e:Halt} (h:s.run P w=.halt e w'):w.drawn≤w'.drawn:=by
 have:=zQC P s w
 rw[h] at this
 exact this
theorem zDn {α:Type} {P:Program} {s:Sem α} {w:World} {es es':Array Event} {r:Result α} (h:s.runT P w es=(r,es')):w.drawn≤(wdR r).drawn:=by
 have:=zJB P s w es
 rw[h] at this
 exact this
def upG (d:Nat):GStep→Prop
 | .go _ w _=>d≤w.drawn
 | .comm _ _ _ _ w _=>d≤w.drawn
 | .spawn _ _ w _=>d≤w.drawn
 | .count _ w _=>d≤w.drawn
 | .timer _ _ w _=>d≤w.drawn
 | .alone _ _ w _=>d≤w.drawn
 | .newcoro _ _ _ w _=>d≤w.drawn
 | .coroswitch _ _ _ w _=>d≤w.drawn
 | .collect _ w _=>d≤w.drawn
 | .watch _ w _=>d≤w.drawn
 | .ended _ _ _=>True
theorem zEY {d:Nat} {es:Array Event} {g:GStep} (h:upG d g):upG d (g.after es):=by cases g<;>exact h
theorem zCs {d d':Nat} {g:GStep} (h:upG d' g) (hd:d≤d'):upG d g:=by
 cases g
 all_goals first
  | exact nT hd h
  | exact trivial
theorem zK4 {d:Nat} {c:Prop} [Decidable c] {a b:GStep} (ha:c→upG d a) (hb:¬c→upG d b):upG d (if c then a else b):=by
 by_cases h:c
 ·rw[if_pos h];exact ha h
 ·rw[if_neg h];exact hb h
theorem zEt {P:Program} {main:Bool} {fr:Frame} {cs:List Frame} {dy:Option Dying} {v:Value} {w:World}:upG w.drawn (doReturn P main fr cs dy v w):=by
 unfold doReturn
 repeat' split
 all_goals first
  | exact nR _
  | exact trivial
theorem zRT {fr:Frame} {a:List ByteArray} {m:String} {b:Bool} {w:World}:upG w.drawn (dieOf fr a m b w):=nR _
theorem zDQ {fr:Frame} {m:String} {w:World}:upG w.drawn (endThrow fr m w):=nR _
theorem zEd {P:Program} {fr:Frame} {v:Value} {w:World}:upG w.drawn (endPrinting P fr v w):=by
 unfold endPrinting
 simp only
 split
 ·exact zDQ
 ·exact trivial
theorem zGy {P:Program} {fr:Frame} {cs:List Frame} {dy:Option Dying} {m:String} {w:World}:upG w.drawn (endFatal P fr cs dy m w):=by
 unfold endFatal
 simp only
 split
 ·rename_i h
  exact zCs zRT (zBG h)
 ·exact trivial
 ·exact trivial
theorem zO4 {w:World} {fd:Nat} {t:ByteArray} {o:Outcome} {d:Nat}:upG d (endWith w fd t o):=by
 unfold endWith
 simp only
 repeat' split
 all_goals exact trivial
theorem zGh {P:Program} {fr:Frame} {cs:List Frame} {dy:Option Dying} {d:Deferred} {w:World}:upG w.drawn (callDeferred P fr cs dy d w):=by
 unfold callDeferred
 refine zK4 (fun _=>trivial) (fun _=>?_)
 rcases hX:Sem.runT P (invoke d.target d.args) w #[] with ⟨r,es⟩
 have h:=zDn hX
 clear hX
 simp only
 refine zEY ?_
 split
 all_goals first
  | exact h
  | exact trivial
  | exact zCs zGy h
  | exact zCs zDQ h
  | (split<;>exact h)
theorem zP3 {P:Program} {main:Bool} {fr:Frame} {cs:List Frame} {dy:Option Dying} {w:World}:upG w.drawn (unwind P main fr cs dy w):=by
 unfold unwind
 split
 ·rename_i block _ _ _
  rcases hX:Sem.runT P (Instr.takeDeferred block) w #[] with ⟨r,es⟩
  have h:=zDn hX
  simp only
  refine zEY ?_
  cases r with
  | ok a w'=>exact h
  | halt e w'=>exact trivial
 ·exact zGh
 ·split
  ·exact trivial
  ·refine zK4 (fun _=>trivial) (fun _=>?_)
   split
   ·exact nR _
   ·split
    ·refine zK4 (fun _=>nR _) (fun _=>?_)
     split
     ·rename_i h
      exact zBG h
     ·exact trivial
     ·exact trivial
    ·split
     ·exact zEd
     ·exact trivial
  ·split
   ·exact zEt
   ·rename_i fn _
    rcases hX:Sem.runT P (results fn fr.tmps) w #[] with ⟨r,es⟩
    have h:=zDn hX
    simp only
    refine zEY ?_
    cases r with
    | ok a w'=>exact zCs zEt h
    | halt e w'=>cases e<;>exact trivial
theorem zNz {P:Program} {fr:Frame} {d:Dying} {f:Fatal} {w:World}:upG w.drawn (writeOn P fr d f w):=by
 unfold writeOn
 simp only
 split
 ·exact trivial
 ·split
  ·rename_i h
   exact zDn h
  ·rename_i h
   exact zDn h
  ·exact trivial
  ·exact trivial
theorem zTE {P:Program} {fr:Frame} {d:Dying} {w:World}:upG w.drawn (die P fr d w):=by
 unfold die
 split
 ·exact zNz
 ·split
  ·refine zK4 (fun _=>nR _) (fun _=>zO4)
  ·simp only
   split
   ·exact nR _
   ·split
    ·rename_i h
     exact zBG h
    ·exact trivial
   ·rename_i t recv name _
    rcases hX:Sem.runT P (invoke (.fn (.method name) #[]) #[.iface t recv]) w #[] with ⟨r,es⟩
    have h:=zDn hX
    simp only
    refine zEY ?_
    split
    ·exact h
    ·exact h
    ·exact trivial
    ·exact zCs zEd h
    ·exact trivial
   ·exact trivial
theorem zRG {P:Program} {fr:Frame} {cs:List Frame} {dy:Option Dying} {g:Nat} {w:World}:upG w.drawn (early P fr cs dy g w):=by
 unfold early
 simp only
 repeat' first
  | exact nR _
  | exact trivial
  | exact (zBG ‹Sem.run P (choose (Question.early g)) w=Result.ok _ _›:w.drawn≤_)
  | split
theorem zFb {P:Program} {li:Bool} {fr:Frame} {cs:List Frame} {dy:Option Dying} {s:Sem Next} {w:World}:upG w.drawn (stepG.apply P li fr cs dy s w):=by
 unfold stepG.apply
 simp only
 rcases hX:(if li then s.runT P w #[] else (s.run P w,#[])) with ⟨r,es⟩
 have h:w.drawn≤(wdR r).drawn:=by
  cases li with
  | true=>exact zDn (by simpa using hX)
  | false=>
    have:r=s.run P w:=by simpa using (congrArg Prod.fst hX).symm
    rw[this]
    exact zQC P s w
 clear hX
 simp only
 refine zEY ?_
 split
 all_goals first
  | exact h
  | exact trivial
  | exact zCs zGy h
  | exact zCs zDQ h
  | exact zCs zRG h
  | (refine zK4 (fun _=>zCs zDQ h) (fun _=>h))
  | ((repeat' split)<;>exact h)
theorem zPY {P:Program} {li:Bool} {fr:Frame} {cs:List Frame} {dy:Option Dying} {w:World}:upG w.drawn (stepG.oper P li fr cs dy w):=by
 unfold stepG.oper
 repeat' split
 all_goals first
  | exact trivial
  | exact zFb
theorem zQn {α:Type} {P:Program} {s:Sem α} {w w':World} {es:Array Event} {a:α} (h:(s.runT P w es).1=.ok a w'):w.drawn≤w'.drawn:=by
 have:=zJB P s w es
 rw[h] at this
 exact this
theorem zR9 {α:Type} {P:Program} {s:Sem α} {w w':World} {es:Array Event} {e:Halt} (h:(s.runT P w es).1=.halt e w'):w.drawn≤w'.drawn:=by
 have:=zJB P s w es
 rw[h] at this
 exact this
theorem zPl {α:Type} {d:Nat} {o:Option α} {a:GStep} {f:α→GStep} (ha:upG d a) (hf:∀ x,upG d (f x)):upG d (o.elim a f):=by
 cases o
 ·exact ha
 ·exact hf _
theorem zSt {P:Program} {main:Bool} {li:Bool} {fr:Frame} {cs:List Frame} {dy:Option Dying} {w:World}:upG w.drawn (stepG.exec P main li fr cs dy w):=by
 unfold stepG.exec
 simp only
 split
 all_goals first
  | exact nR _
  | exact trivial
  | exact zFb
  | exact zPY
  | skip
 all_goals
  repeat' first
   | exact nR _
   | exact trivial
   | exact zFb
   | exact zPY
   | exact zCs zEt (zQn (by assumption))
   | exact zCs zFb (zQn (by assumption))
   | exact zQn (by assumption)
   | exact zR9 (by assumption)
   | exact zBG (by assumption)
   | refine zPl ?_ (fun _=>nR _)
   | refine zPl trivial (fun _=>zFb)
   | refine zEY ?_
   | split
theorem zRf {P:Program} {main:Bool} {g:Goroutine} {li:Bool} {w:World}:upG w.drawn (stepG P main g w li):=by
 unfold stepG
 simp only
 split
 ·exact zTE
 ·exact zSt
 ·exact zP3
def upDr (d:Nat):Stepped→Prop
 | .next m=>d≤m.world.drawn
 | .ended _ _=>True
theorem zHr {rest:Rest} {cs:Array CommCase} {w w':World} (h:waitingAt rest cs w=some w'):w.drawn≤w'.drawn:=by
 unfold waitingAt at h
 repeat' split at h
 all_goals first
  | (cases h;exact nR _)
  | (cases h;done)
theorem zHw {P:Program} {rest:Rest} {gs:Array Goroutine} {i:Nat} {g:Goroutine} {cs:Array CommCase} {b:Bool} {sh:CommShape} {w:World}:upDr w.drawn (communicate P rest gs i g cs b sh w).1:=by
 unfold communicate
 simp only
 repeat' first
  | exact nR _
  | exact trivial
  | exact zHr (by assumption)
  | exact zBG (by assumption)
  | split
 all_goals (simp only[upDr])
 all_goals first
  | exact zBG (by assumption)
  | exact nT (zBG (by assumption)) (zRi (by assumption))
  | exact nT (zBG (by assumption)) (zBG (by assumption))
theorem zO9 {P:Program} {rest:Rest} {gs:Array Goroutine} {w:World}:upDr w.drawn (look P gs rest w):=by
 unfold look
 simp only
 repeat' first
  | exact nR _
  | exact trivial
  | exact zBG (by assumption)
  | split
 all_goals (simp only[upDr])
 all_goals exact zBG (by assumption)
theorem zR7 {P:Program} {m:Machine} {k:Nat}:upDr m.world.drawn (serve P m k):=by
 unfold serve
 simp only
 repeat' first
  | exact nR _
  | exact trivial
  | split
theorem zNg (w:World) (c:Nat):(drain w c).2.drawn=w.drawn:=by
 unfold drain
 split<;>rfl
theorem zHb (m:Machine) (k:Nat) (t:Timer) (a b:Nat):(retime m k t a b).2.world.drawn=m.world.drawn:=by
 unfold retime
 simp only
 split
 ·exact zNg _ _
 ·rfl
theorem zNR {m:Machine} {var:Addr} {f:Nat→Timer→Value×Machine} {v:Value} {m':Machine} {d:Nat} (hf:∀ k t,(f k t).2.world.drawn=d) (h:timerOp.named m var f=.ok (v,m')):m'.world.drawn=d:=by
 unfold timerOp.named at h
 split at h
 ·rename_i k _
  have h2:=hf k (m.rest.timers.getD k default)
  injection h with h
  rw[h] at h2
  exact h2
 ·cases h
theorem zJ1 {m m':Machine} {op:TimerOp} {v:Value} (h:timerOp m op=.ok (v,m')):m'.world.drawn=m.world.drawn:=by
 unfold timerOp at h
 split at h
 ·repeat' split at h
  all_goals first
   | (cases h;rfl)
   | (cases h;done)
 ·exact zNR (fun k t=>zHb _ _ _ _ _) h
 ·split at h
  ·rename_i m2 h2
   have:m2.world.drawn=m.world.drawn:=by
    unfold timerOp.opened at h2
    repeat' split at h2
    all_goals first
     | (cases h2;rfl)
     | (cases h2;done)
   rw[←this]
   exact zNR (fun k t=>zHb _ _ _ _ _) h
  ·cases h
 ·cases h;rfl
theorem zDV {d d':Nat} {s:Stepped} (h:upDr d' s) (hd:d≤d'):upDr d s:=by
 cases s
 ·exact nT hd h
 ·exact trivial
theorem zSl {P:Program} {m:Machine} {i:Nat} {li:Bool}:upDr m.world.drawn (Go.runT P m i li).1:=by
 unfold Go.runT
 rcases hs:m.gs.swapAt! i { (default:Goroutine) with status:=.finished} with ⟨g,gs⟩
 have h:=zRf (P:=P) (main:=i==0) (g:=g) (li:=li) (w:=m.world)
 simp only
 generalize stepG P (i==0) g m.world li=s at *
 split
 all_goals (simp only[upG] at h)
 all_goals first
  | exact h
  | exact trivial
  | exact zDV zHw h
  | exact zDV zO9 h
  | (split<;>exact h)
  | (split<;>first|exact h|exact trivial)
  | skip
 ·split
  ·rename_i hq
   exact nT h (Nat.le_of_eq (zJ1 hq).symm)
  ·split
   ·rename_i hq
    cases hq
    exact h
   ·exact trivial
  ·exact trivial
  ·exact trivial
def upM (d:Nat):Move→Prop
 | .goroutine m _=>d≤m.world.drawn
 | .machine s _=>upDr d s
theorem zQg {α:Type} {P:Program} {s:Sem α} {m:Machine} {t:Nat} {a:α} {w':World} (h:s.run P (m.advanceTo t).world=.ok a w'):m.world.drawn≤w'.drawn:=by
 have:=zBG h
 exact this
theorem zJm {P:Program} {m:Machine}:upM m.world.drawn (askOn P m):=by
 unfold askOn
 simp only
 split
 ·exact trivial
 ·rename_i k w1 h1
  have h1':=zBG h1
  clear h1
  split
  ·exact zDV zR7 h1'
  ·split
   ·split
    ·exact h1'
    ·split
     ·exact h1'
     ·split<;>exact trivial
   ·split
    ·repeat' first
      | exact trivial
      | split
     all_goals (simp only[upM])
     all_goals first
      | exact nT h1' (zBG (by assumption))
      | exact nT h1' (nT (zBG (by assumption)) (zBG (by assumption)))
    ·split
     ·exact trivial
     ·rename_i h2
      have h2':=nT h1' (zBG h2)
      clear h2
      repeat' first
       | exact trivial
       | split
      all_goals (simp only[upM])
      all_goals first
       | exact nT h2' (zBG (by assumption))
       | exact nT h2' (nT (zBG (by assumption)) (zBG (by assumption)))
     ·rename_i h2
      have h2':=nT h1' (zBG h2)
      exact h2'
     ·rename_i h2
      have h2':=nT h1' (zBG h2)
      clear h2
      repeat' first
       | exact trivial
       | split
      all_goals (simp only[upM])
      all_goals first
       | (have h3:=zQg ‹Sem.run P (choose (Question.sched _)) _=Result.ok _ _›;exact nT h2' h3)
       | (have h3:=zQg ‹Sem.run P (choose (Question.sched _)) _=Result.ok _ _›;exact nT h2' (nT h3 (zBG (by assumption))))
theorem zNT {d d':Nat} {s:Move} (h:upM d' s) (hd:d≤d'):upM d s:=by
 cases s
 ·exact nT hd h
 ·exact zDV h hd
theorem zSJ {P:Program} {m:Machine}:upM m.world.drawn (ask P m):=by
 unfold ask
 split
 ·split
  ·exact trivial
  ·rename_i h1
   have h2:=zDV (zO9 (P:=P) (rest:=m.rest) (gs:=m.gs)) (zBG h1)
   split
   ·rename_i h3
    rw[h3] at h2
    exact zNT zJm h2
   ·exact h2
  ·rename_i h1
   exact zNT zJm (zBG h1)
 ·exact zJm
theorem zSv {P:Program} {m:Machine}:upM m.world.drawn (move P m):=by
 unfold move
 split
 ·split
  ·exact nR _
  ·exact trivial
 ·split
  ·split
   ·exact nR _
   ·exact zSJ (m:={ m with rest:=_})
  ·exact zSJ
theorem zS0 {P:Program} {m:Machine}:upDr m.world.drawn (step P m):=by
 unfold step stepT
 have h:=zSv (P:=P) (m:=m)
 split
 ·rename_i hq
  rw[hq] at h
  exact zDV zSl h
 ·rename_i hq
  rw[hq] at h
  exact h
theorem zQz {P:Program}:∀ (n:Nat) (m:Machine),upDr m.world.drawn (runN P n m)
 | 0,m=>nR _
 | n+1,m=>by
   have h:=zS0 (P:=P) (m:=m)
   unfold runN
   split
   ·rename_i hq
    rw[hq] at h
    exact zDV (zQz n _) h
   ·exact h
theorem zRF {P:Program} {m m':Machine} (h:Steps P m m'):m.world.drawn≤m'.world.drawn:=by
 obtain ⟨n,hn⟩:=h
 have:=zQz (P:=P) n m
 rw[hn] at this
 exact this
theorem Calls.drawn {P:Program} {f:FuncId} {args:Array Value} {w:World} {v:Value} {R:World→Prop} (h:Calls P f args w fun e w'=>e=.returned v∧R w') :
  Calls P f args w fun e w'=>e=.returned v∧R w'∧w.drawn≤w'.drawn:=fun cs=>by
 obtain ⟨e,w',fr,⟨rfl,hR⟩,hc,h1,h2⟩:=h cs
 exact ⟨_,w',fr,⟨rfl,hR,zRF (m:=lone (Frame.enter P f args .normal) cs w) (m':=lone fr cs w') hc⟩,hc,h1,h2⟩
end Go.Proofs.YthbnmehbhpakaaaGreatDoor
namespace Go.Proofs.YthbnmehbhpakaaaGreatDoor
open Go.Rows Go.RowKit Go.Shelf Go.Sort
theorem zLA:∀ a b:List UInt8,(Lib.compareBytes a b<0↔a<b)∧(Lib.compareBytes a b=0↔a=b)
 | [],[]=>by simp[Lib.compareBytes]
 | [],_::_=>by simp[Lib.compareBytes]
 | _::_,[]=>by simp[Lib.compareBytes]
 | x::a,y::b=>by
   have ih:=zLA a b
   rw[Lib.compareBytes,List.cons_lt_cons_iff,List.cons.injEq]
   by_cases h1:x<y
   ·have hne:x≠y:=fun e=>by subst e;exact UInt8.lt_irrefl x h1
    simp[h1,hne]
   ·by_cases h2:y<x
    ·have hne:x≠y:=fun e=>by subst e;exact UInt8.lt_irrefl x h2
     simp[h1,h2,hne]
    ·have he:x=y:=UInt8.le_antisymm (UInt8.not_lt.1 h2) (UInt8.not_lt.1 h1)
     simp[h1,h2,he,ih.1,ih.2]
abbrev RdI (w:World) (S:Nat→Prop):={ p:Dir×List Value // rDir.holds w S p.1 p.2∧p.1.path.length * 32≤140737488355328}
def zDH:List Value:=[.slice none 0 0,.string ⟨#[]⟩,.int .i64 0,.int .i64 0,.int .i64 0,.slice none 0 0,.slice none 0 0,.slice none 0 0,.int .i64 0]
theorem zG5 (w:World) (S:Nat→Prop):rDir.holds w S root0 zDH:=
 have h0:I64 0:=⟨by decide,by decide⟩
 ⟨_,_,_,_,rfl,SlV.nil_ _ _ _,by decide,h0,h0,h0,SlV.nil_ _ _ _,SlV.nil_ _ _ _,SlV.nil_ _ _ _,h0⟩
instance {w:World} {S:Nat→Prop}:Inhabited (RdI w S):=⟨⟨(root0,zDH),zG5 w S,by decide⟩⟩
section
variable {w:World} {S:Nat→Prop}
def encRi (x:RdI w S):List Value:=x.1.2
def cfRi (x y:RdI w S):Int:=Lib.compareBytes (textB x.1.1.path).data.toList (textB y.1.1.path).data.toList
theorem ltRi (x y:RdI w S):ltOf cfRi x y=decide ((textB x.1.1.path).data.toList<(textB y.1.1.path).data.toList):=by
 unfold ltOf cfRi
 exact decide_eq_decide.2 (zLA _ _).1
theorem swoRi:SWO (ltOf (cfRi (w:=w) (S:=S))) where
 irrefl x:=by rw[ltRi];simp
 trans x y z h1 h2:=by rw[ltRi] at *;simp at *;exact List.lt_trans h1 h2
 ntrans x y z h1 h2:=by
  rw[ltRi] at *
  simp only[decide_eq_false_iff_not] at *
  exact List.not_lt.2 (List.le_trans (List.not_lt.1 h2) (List.not_lt.1 h1))
end
theorem zSQ {W W':World} (h:Below W.heap.size W W') (hd:W.drawn≤W'.drawn):∃ q os',W'=grow (W.drewN q) os':=by
 obtain ⟨p,hp⟩:=regrown_of_below h
 have e:W'.drawn=p.d:=by rw[hp];rfl
 refine ⟨p.d - W.drawn,p.os,?_⟩
 rw[hp]
 congr 1
 unfold redrawn World.drewN
 congr 1
 omega
theorem zIE (w:World) (g o m:Nat) (dk:Array Value) (os:Array Obj) {k:Nat} (hk:k<w.heap.size) (hne:k≠g):(sortWorld id w g o m dk os).heap[k]?=w.heap[k]?:=by
 unfold sortWorld
 have hs:(putRow id (Sort.ahead w m) g o dk).heap.size=w.heap.size:=size_putRow id (Sort.ahead w m) g o dk
 rw[heap_grow_old _ _ (by rw[hs];exact hk)]
 unfold putRow mapBlock
 simp only[Array.getElem?_modify]
 rw[if_neg (fun e=>hne e.symm)]
 rfl
theorem zDr (w:World) (g o m:Nat) (dk:Array Value) (os:Array Obj):w.grownBy (sortWorld id w g o m dk os) (some g):=by
 refine ⟨rfl,rfl,rfl,?_,fun k hk hne=>zIE w g o m dk os hk (fun e=>hne (by rw[e]))⟩
 unfold sortWorld
 rw[size_grow,size_putRow]
 show w.heap.size≤w.heap.size+os.size
 omega
theorem zMs (w:World) (oa ob:Obj):((w.alloc oa).alloc ob).heap[w.heap.size]?=some oa∧((w.alloc oa).alloc ob).heap[w.heap.size+1]?=some ob:=by
 have hsz:w.heap.size+1=(w.alloc oa).heap.size:=by simp
 refine ⟨(Below.heap_alloc (w.alloc oa) ob w.heap.size (by rw[←hsz];exact Nat.lt_succ_self _)).trans (zAT w oa),?_⟩
 rw[hsz];exact zAT (w.alloc oa) ob
theorem zRH (x y:Dir) (cs ds:List Value) (W:World) (S:Nat→Prop) (hx:rDir.holds W S x cs) (hy:rDir.holds W S y ds) (hxl:x.path.length * 32≤140737488355328) (hyl:y.path.length * 32≤140737488355328) :
  Calls Tryz.prog 102 #[.agg cs.toArray,.agg ds.toArray] W fun e w'=>e=.returned (.int .i64 (Lib.compareBytes (textB x.path).data.toList (textB y.path).data.toList))∧Below W.heap.size W w':=by
 obtain ⟨s0,s1,s2,s3,rfl,hp,_,_,_,_,_,_,_,_⟩:=hx
 obtain ⟨u0,u1,u2,u3,rfl,hq,_,_,_,_,_,_,_,_⟩:=hy
 obtain ⟨pA,pc,rfl,_,_⟩:=hp.val
 obtain ⟨qA,qc,rfl,_,_⟩:=hq.val
 have HT1:Hid (∀ V,Below W.heap.size W V→Calls Tryz.prog 18 #[.slice pA x.path.length pc] V fun e w'=>e=.returned (.string (textB x.path))∧Below V.heap.size V w'):=fun V hV=>zBd _ _ _ x.path V (fun b=>b<V.heap.size) (fun b h=>h) hxl ((hp.belowSize hV).more fun b h h'=>h')
 have HT2:Hid (∀ V,Below W.heap.size W V→Calls Tryz.prog 18 #[.slice qA y.path.length qc] V fun e w'=>e=.returned (.string (textB y.path))∧Below V.heap.size V w'):=fun V hV=>zBd _ _ _ y.path V (fun b=>b<V.heap.size) (fun b h=>h) hyl ((hq.belowSize hV).more fun b h h'=>h')
 have HCm:Hid (∀ V,Calls Tryz.prog 80 #[.string (textB x.path),.string (textB y.path)] V fun e w'=>e=.returned (.int .i64 (Lib.compareBytes (textB x.path).data.toList (textB y.path).data.toList))∧Below V.heap.size V w'):=fun V=>(Tryz.strings_Compare _ _ V).mono fun e w' ⟨h1,h2⟩=>⟨h1,by rw[h2];exact bR _ _⟩
 clear hp hq hxl hyl
 generalize Lib.compareBytes (textB x.path).data.toList (textB y.path).data.toList=R at *
 generalize textB x.path=tx at *
 generalize textB y.path=ty at *
 generalize x.path.length=lx at *
 generalize y.path.length=ly at *
 go_enter Tryz.func102,Tryz.ntmps102
 go_upto_region 1 with (fail)
 obtain ⟨w1,hw1⟩:∃ w1,w1=(W.alloc (.cells #[.slice pA lx pc,.string x.pack.name,.int .i64 x.pack.ver.major,.int .i64 x.pack.ver.minor,.int .i64 x.pack.ver.patch,s1,s2,s3,.int .i64 x.node] 59)).alloc (.cells #[.slice qA ly qc,.string y.pack.name,.int .i64 y.pack.ver.major,.int .i64 y.pack.ver.minor,.int .i64 y.pack.ver.patch,u1,u2,u3,.int .i64 y.node] 59):=⟨_,rfl⟩
 have hB1:Below W.heap.size W w1:=by rw[hw1];exact bal (bal (bR _ _) _) _
 have hq1:=(zMs W (.cells #[.slice pA lx pc,.string x.pack.name,.int .i64 x.pack.ver.major,.int .i64 x.pack.ver.minor,.int .i64 x.pack.ver.patch,s1,s2,s3,.int .i64 x.node] 59) (.cells #[.slice qA ly qc,.string y.pack.name,.int .i64 y.pack.ver.major,.int .i64 y.pack.ver.minor,.int .i64 y.pack.ver.patch,u1,u2,u3,.int .i64 y.node] 59))
 rw[←hw1] at hq1 ⊢
 have c0:=cO _ _ 0 _ _ _ hq1.1
 have d0:=cO _ _ 0 _ _ _ hq1.2
 have HB1:=cH hB1
 have HQ1:=cH (qcall (w:=w1) (fun V hV=>HT1.out V (bot HB1.out hV)))
 have HQ2:=cH (qcall (w:=w1) (fun V hV=>HT2.out V (bot HB1.out hV)))
 have HQ3:=cH (qcall (w:=w1) (fun V _=>HCm.out V))
 clear hw1 hB1 hq1
 have r_c0:=cR c0
 have r_d0:=cR d0
 go_wp2_with fail
 refine wQ ?_
 repeat (go_big_quiet_step (first|(with_reducible exact HQ1.out _ _)|(with_reducible exact HQ2.out _ _)|(with_reducible exact HQ3.out _ _)))
 refine wpQuiet_nil fun w2 B2=>?_
 go_wp2_with fail
 go_ret
 exact ⟨rfl,bot HB1.out B2⟩
theorem zOS {w:World} {base:Nat} {g cap:Nat} {l:List Dir} {S:Nat→Prop} (h:Own rDir w base 59 (.slice (some ⟨g,0,none⟩) l.length cap) l S) (hlen:∀ d∈l,d.path.length * 32≤140737488355328):∃ L:List (RdI w S),L.length=l.length∧L.map (fun x=>x.1.1)=l∧HoldsK encRi 9 w g 0 L.toArray:=by
 obtain ⟨h0,xs,h1,h2⟩:=h
 have key:∀ i (hi:i<l.length),∃ x:RdI w S,x.1.1=l[i]∧∀ (j:Nat) (u:Value),x.1.2[j]?=some u→w.cell? ⟨g,i * 9+j,none⟩=some u:=fun i hi=>by
  obtain ⟨cs,hc,hcell⟩:=h2.get i l[i] (gE hi)
  refine ⟨⟨(l[i],cs),hc,hlen _ (List.getElem_mem hi)⟩,rfl,fun j u hu=>?_⟩
  have h3:=h1.cells (g:=g) rfl _ u (hcell j u hu)
  rw[zCN,Nat.zero_add] at h3
  exact h3
 have hfr:∀ o,w.frozen? ⟨g,o,none⟩=false:=fun o=>by
  rcases h1.2 with ⟨q,_⟩|⟨g',cap',cur,q,_,hg,_⟩
  ·cases q
  ·simp only[Value.slice.injEq,Option.some.injEq,Addr.mk.injEq] at q
   obtain ⟨⟨rfl,_⟩,_⟩:=q
   simp[World.frozen?,hg]
 obtain ⟨f,hf⟩:∃ f:Nat→RdI w S,∀ i (hi:i<l.length),(f i).1.1=l[i]∧∀ (j:Nat) (u:Value),(f i).1.2[j]?=some u→w.cell? ⟨g,i * 9+j,none⟩=some u:=by
  refine ⟨fun i=>if hi:i<l.length then (key i hi).choose else default,fun i hi=>?_⟩
  simp only[dif_pos hi]
  exact (key i hi).choose_spec
 refine ⟨(List.range l.length).map f,by simp,?_,?_⟩
 ·apply List.ext_getElem
  ·simp
  ·intro i h1 h2
   simp only[List.length_map,List.length_range] at h1
   simp only[List.getElem_map,List.getElem_range]
   exact (hf i h1).1
 ·intro t ht
  rw[size_flatK,List.size_toArray,List.length_map,List.length_range] at ht
  have hi:t / 9<l.length:=by omega
  have hiL:t / 9<((List.range l.length).map f).toArray.size:=by simpa using hi
  rw[get_flatK _ _ _ _ (by rw[List.size_toArray,List.length_map,List.length_range];exact ht),getElem!_pos _ (t / 9) hiL]
  have hx:((List.range l.length).map f).toArray[t / 9]=f (t / 9):=by simp
  rw[hx]
  obtain ⟨_,hq⟩:=hf (t / 9) hi
  have hl9:(f (t / 9)).1.2.length=9:=rDir.len (f (t / 9)).2.1
  have hm:t % 9<(f (t / 9)).1.2.length:=by rw[hl9];omega
  refine ⟨?_,hfr _⟩
  have:=hq (t % 9) _ (gE hm)
  rw[show 0+t=t / 9 * 9+t % 9 from by omega,this]
  show some _=some ((f (t / 9)).1.2)[t % 9]!
  rw[getElem!_pos (f (t / 9)).1.2 (t % 9) hm]
theorem zLK:zEk Tryz.prog 102:=zA9 Tryz.func102 (by kernel_rfl) rfl
def SrtV (w:World) (g n cap:Nat) (l:List Dir) (S:Nat→Prop):Prop:=
 n=l.length∧n≤cap∧cap≤maxLen∧g<w.heap.size∧(∃ cs t,w.heap[g]?=some (.cells cs t (0,0)))∧(∀ b,S b→b<w.heap.size∧b≠g)∧∀ (i:Nat) (x:Dir),l[i]?=some x→∃ cs,rDir.holds w S x cs∧∀ (j:Nat) (u:Value),cs[j]?=some u→w.cell? ⟨g,i * 9+j,none⟩=some u
theorem SrtV.slv {w:World} {g n cap:Nat} {l:List Dir} {S:Nat→Prop} (h:SrtV w g n cap l S):SlV rDir w (fun b=>S b∨b=g) l (.slice (some ⟨g,0,none⟩) n cap):=by
 obtain ⟨rfl,h2,h3,h4,_,h5,h6⟩:=h
 refine ⟨some ⟨g,0,none⟩,cap,rfl,h2,h3,(fun e=>by cases e),fun _=>⟨g,0,rfl,.inr rfl,h4,fun i x hx=>?_⟩⟩
 obtain ⟨cs,q1,q2⟩:=h6 i x hx
 refine ⟨cs,rDir.mono q1 fun b hb _=>⟨.inl hb,rfl⟩,fun j u hu=>?_⟩
 rw[Nat.zero_add]
 exact q2 j u hu
theorem SrtV.keep {w w':World} {g n cap:Nat} {l:List Dir} {S:Nat→Prop} (h:SrtV w g n cap l S) (hb:Below w.heap.size w w'):SrtV w' g n cap l S:=by
 obtain ⟨h1,h2,h3,h4,⟨cs,t,hc⟩,h5,h6⟩:=h
 refine ⟨h1,h2,h3,lL h4 hb.size,⟨cs,t,(hb.block g h4).trans hc⟩,fun b hS=>⟨lL (h5 b hS).1 hb.size,(h5 b hS).2⟩,fun i x hx=>?_⟩
 obtain ⟨cs,q1,q2⟩:=h6 i x hx
 exact ⟨cs,Rp.belowSize q1 hb,fun j u hu=>(zAI (hb.block g h4) _ _).trans (q2 j u hu)⟩
theorem SrtV.frozen {w:World} {g n cap:Nat} {l:List Dir} {S:Nat→Prop} (h:SrtV w g n cap l S) (o:Nat):w.frozen? ⟨g,o,none⟩=false:=by
 obtain ⟨_,_,_,_,⟨cs,t,hc⟩,_⟩:=h
 simp[World.frozen?,hc]
theorem SrtV.node {w:World} {g n cap:Nat} {l:List Dir} {S:Nat→Prop} (h:SrtV w g n cap l S) {k:Nat} {d:Dir} (hk:l[k]?=some d) {m:Int} (hm:I64 m):SrtV (w.setCell ⟨g,k * 9+8,none⟩ (.int .i64 m)) g n cap (l.set k { d with node:=m}) S:=by
 obtain ⟨h1,h2,h3,h4,⟨cs,t,hc⟩,h5,h6⟩:=h
 have hs:∀ v,(w.setCell ⟨g,k * 9+8,none⟩ v).heap[g]?=some (.cells (cs.setIfInBounds (k * 9+8) v) t (0,0)):=fun v=>by
  obtain ⟨hlt,hq⟩:=aS.1 hc
  show (w.heap.modify g _)[g]?=_
  rw[Array.getElem?_eq_getElem (by rw[Array.size_modify];exact hlt),Array.getElem_modify_self,hq]
  rfl
 have hz:(w.setCell ⟨g,k * 9+8,none⟩ (.int .i64 m)).heap.size=w.heap.size:=by simp
 have hx:∀ b,S b→b<w.heap.size→S b∧(w.setCell ⟨g,k * 9+8,none⟩ (.int .i64 m)).heap[b]?=w.heap[b]?:=fun b hb _=>⟨hb,heap_setCell_other w ⟨g,k * 9+8,none⟩ b _ (h5 b hb).2⟩
 refine ⟨by rw[List.length_set];exact h1,h2,h3,by rw[hz];exact h4,⟨_,t,hs _⟩,fun b hb=>⟨by rw[hz];exact (h5 b hb).1,(h5 b hb).2⟩,fun i x hix=>?_⟩
 have at_:∀ o u,w.cell? ⟨g,o,none⟩=some u→o≠k * 9+8→(w.setCell ⟨g,k * 9+8,none⟩ (.int .i64 m)).cell? ⟨g,o,none⟩=some u:=fun o u hu hne=>by
  rw[cO _ _ _ _ _ _ hc] at hu
  rw[cO _ _ _ _ _ _ (hs _),Array.getElem?_setIfInBounds_ne (fun e=>hne e.symm)]
  exact hu
 by_cases e:i=k
 ·subst e
  have hlt:=(gS.1 hk).1
  rw[List.getElem?_set_self hlt] at hix
  have:=Option.some.inj hix
  subst this
  obtain ⟨cs',q1,q2⟩:=h6 i d hk
  obtain ⟨s0,s1,s2,s3,rfl,r0,r1,r2,r3,r4,r5,r6,r7,_⟩:=rDir.mono q1 hx
  refine ⟨_,⟨s0,s1,s2,s3,rfl,r0,r1,r2,r3,r4,r5,r6,r7,hm⟩,fun j u hu=>?_⟩
  by_cases hj:j=8
  ·subst hj
   have hu':Value.int .i64 m=u:=Option.some.inj hu
   subst hu'
   have h8:=q2 8 _ rfl
   rw[cO _ _ _ _ _ _ hc] at h8
   have hb:=(aS.1 h8).1
   rw[cO _ _ _ _ _ _ (hs _),Array.getElem?_setIfInBounds_self_of_lt hb]
  ·have hj9:j<9:=(gS.1 hu).1
   refine at_ _ u (q2 j u ?_) (by omega)
   match j,hj9,hj with
   | 0,_,_=>exact hu
   | 1,_,_=>exact hu
   | 2,_,_=>exact hu
   | 3,_,_=>exact hu
   | 4,_,_=>exact hu
   | 5,_,_=>exact hu
   | 6,_,_=>exact hu
   | 7,_,_=>exact hu
   | 8,_,h=>exact absurd rfl h
 ·rw[List.getElem?_set_ne (Ne.symm e)] at hix
  obtain ⟨cs',q1,q2⟩:=h6 i x hix
  refine ⟨cs',rDir.mono q1 hx,fun j u hu=>at_ _ u (q2 j u hu) ?_⟩
  have hj9:j<9:=by have:=rDir.len q1;have:=(gS.1 hu).1;simp only[rDir] at *;omega
  omega
theorem SrtV.of_holds {w W:World} {g cap:Nat} {S:Nat→Prop} {L:List (RdI w S)} (h:HoldsK encRi 9 W g 0 L.toArray) (hlt:g<w.heap.size) (hf:∃ cs t,W.heap[g]?=some (.cells cs t (0,0))) (hc:L.length≤cap) (hm:cap≤maxLen) (hg:w.grownBy W (some g)) (hS:∀ b,S b→b<w.heap.size∧b≠g):SrtV W g L.length cap (L.map fun x=>x.1.1) S:=by
 refine ⟨by rw[List.length_map],hc,hm,lL hlt hg.size,hf,fun b hb=>⟨lL (hS b hb).1 hg.size,(hS b hb).2⟩,fun i x hx=>?_⟩
 rw[List.getElem?_map] at hx
 obtain ⟨y,hy,rfl⟩:=Option.map_eq_some_iff.1 hx
 obtain ⟨hi,hy⟩:=gS.1 hy
 refine ⟨y.1.2,rDir.mono y.2.1 fun b hb hl=>⟨hb,hg.block b hl fun e=>(hS b hb).2 (Option.some.inj e)⟩,fun j u hu=>?_⟩
 have hl9:y.1.2.length=9:=rDir.len y.2.1
 have hj:j<9:=by have:=(gS.1 hu).1;omega
 have:=(h.cell (i:=i) (c:=j) (by rw[List.size_toArray];exact hi) hj).1
 rw[Nat.zero_add] at this
 rw[this,getElem!_pos L.toArray i (by rw[List.size_toArray];exact hi)]
 have hl:L.toArray[i]'(by rw[List.size_toArray];exact hi)=y:=by rw[←hy];rfl
 rw[hl]
 show some (y.1.2)[j]! = some u
 rw[getElem!_pos y.1.2 j (by omega),←hu,gE]
theorem zLT (g n cap:Nat) (l:List Dir) (w:World) (base:Nat) (S:Nat→Prop) (hown:Own rDir w base 59 (.slice (some ⟨g,0,none⟩) n cap) l S) (hm:l.length≤1000000) (hlen:∀ d∈l,d.path.length * 32≤140737488355328) :
  Calls Tryz.prog 101 #[.slice (some ⟨g,0,none⟩) n cap,.func (.func 102) #[] #[]] w fun e w'=>e=.returned (.tuple #[])∧(∃ T,T.Perm l∧T.Pairwise upT∧SrtV w' g n cap T S)∧w.grownBy w' (some g):=by
 obtain rfl:n=l.length:=hown.slv.n_eq
 have hcap:=hown.slv.cap_le
 have hlt:=(hown.lt g rfl).2
 have hSg:∀ b,S b→b<w.heap.size∧b≠g:=fun b hb=>⟨(hown.1 b hb).1,fun e=>(hown.1 b hb).2 (by rw[e];rfl)⟩
 have hfr:∃ cs t,w.heap[g]?=some (.cells cs t (0,0)):=by
  obtain ⟨_,xs,⟨_,q⟩,_⟩:=hown
  rcases q with ⟨q,_⟩|⟨g',cap',cur,q,_,hg,_⟩
  ·cases q
  ·simp only[Value.slice.injEq,Option.some.injEq,Addr.mk.injEq] at q
   obtain ⟨⟨rfl,_⟩,_⟩:=q
   exact ⟨_,_,hg⟩
 obtain ⟨L,hLl,hLn,hH⟩:=zOS hown hlen
 rw[←hLl] at hcap hm ⊢
 have hcmp:CmpLays Tryz.prog 102 #[] (encRi (w:=w) (S:=S)) 9 cfRi g 0 L.toArray.size w:=fun m os dk hs x y=>by
  have hgr:w.grownBy (sortWorldK encRi 9 w g 0 m dk os) (some g):=zDr w g 0 m (flatK encRi 9 dk) os
  have hx:rDir.holds (sortWorldK encRi 9 w g 0 m dk os) S x.1.1 x.1.2:=Rp.keep x.2.1 fun b hb hl=>hgr.block b hl (fun e=>(hSg b hb).2 (Option.some.inj e))
  have hy:rDir.holds (sortWorldK encRi 9 w g 0 m dk os) S y.1.1 y.1.2:=Rp.keep y.2.1 fun b hb hl=>hgr.block b hl (fun e=>(hSg b hb).2 (Option.some.inj e))
  refine (Calls.drawn (zRH x.1.1 y.1.1 x.1.2 y.1.2 _ S hx hy x.2.2 y.2.2)).mono ?_
  rintro e w' ⟨h1,h2,h3⟩
  exact ⟨h1,zSQ h2 h3⟩
 have hcon:=AnyQ.slices_SortFunc Tryz.sortDir 9 Tryz.isAgg59 Tryz.sizeOf59 (encRi (w:=w) (S:=S)) (fun x=>rDir.len x.2.1) (fun x u hu=>rDir.one x.2.1 u hu) cfRi swoRi 102 #[] g 0 cap L.toArray w zLK
  hcmp hH hlt (by rw[List.size_toArray];omega)
 rw[List.size_toArray] at hcon
 refine hcon.mono ?_
 rintro e w' ⟨rfl,d',n,os,hp,hs,rfl⟩
 obtain ⟨hp1',_,hp3⟩:=hp
 have hp1:d'.size=L.length:=hp1'.trans (List.size_toArray ..)
 clear hp1'
 have hd:d'.toList.length=L.length:=by rw[Array.length_toList,hp1]
 have hperm:d'.toList.Perm L:=by
  have h1:(d'.extract 0 L.length).toList=d'.toList:=by rw[←hp1,Array.extract_size]
  have h2:(L.toArray.extract 0 L.length).toList=L:=by
   have:=Array.extract_size (xs:=L.toArray)
   rw[List.size_toArray] at this
   rw[this]
  rw[h1,h2] at hp3
  exact hp3
 have hH':HoldsK encRi 9 (sortWorldK encRi 9 w g 0 n d' os) g 0 d'.toList.toArray:=by
  rw[Array.toArray_toList]
  exact holdsK_grow encRi 9 _ os g 0 d' (by show g<(putRow id (Sort.ahead w n) g 0 _).heap.size;rw[size_putRow];exact hlt) (holdsK_putRowK encRi 9 (Sort.ahead w n) g 0 L.toArray d' (holdsK_ahead encRi 9 w n g 0 _ hH) (by rw[hp1,List.size_toArray]))
 have hgr:w.grownBy (sortWorldK encRi 9 w g 0 n d' os) (some g):=zDr w g 0 n (flatK encRi 9 d') os
 have hfr':∃ cs t,(sortWorldK encRi 9 w g 0 n d' os).heap[g]?=some (.cells cs t (0,0)):=by
  obtain ⟨cs,t,hc⟩:=hfr
  obtain ⟨hlt,hk⟩:=aS.1 hc
  refine ⟨putCells id 0 (flatK encRi 9 d') cs,t,?_⟩
  show ((w.heap.modify g (onCells (putCells id 0 (flatK encRi 9 d'))))++os)[g]?=_
  rw[Array.getElem?_append_left (by rw[Array.size_modify];exact hlt),Array.getElem?_eq_getElem (by rw[Array.size_modify];exact hlt),Array.getElem_modify_self,hk]
  rfl
 refine ⟨rfl,⟨d'.toList.map (fun x=>x.1.1),by rw[←hLn];exact hperm.map _,?_,?_⟩,hgr⟩
 ·rw[List.pairwise_map]
  refine List.pairwise_iff_getElem.2 fun i j hi hj hij=>?_
  have:=hs i j (nZ _) hij (by omega)
  rw[ltRi,getElem!_pos d' j (by simpa using hj),getElem!_pos d' i (by simpa using hi)] at this
  unfold upT
  rw[zCg]
  simpa using this
 ·have:=SrtV.of_holds (cap:=cap) hH' hlt hfr' (by rw[hd];exact hcap.1) hcap.2 hgr hSg
  rw[hd] at this
  exact this
