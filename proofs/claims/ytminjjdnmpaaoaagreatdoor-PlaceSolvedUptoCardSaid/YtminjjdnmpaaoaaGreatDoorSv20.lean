/- A run never takes back what it has drawn: over any program, any machine. -/
import Derived.Calls
import Derived.Lib.QuietBelow
import Derived.Shelf.SlGeneric
import Derived.Shelf.SlSortCmp.WholeK
import Derived.Shelf.SlSortCmp.NoneTotal
import Derived.Ground.SlsfProg
import Derived.Test.YtminjjdnmpaaoaaGreatDoorProg
import Derived.Test.YtminjjdnmpaaoaaGreatDoorSv12
import Derived.Test.YtminjjdnmpaaoaaGreatDoorSv01
import Derived.Test.YtminjjdnmpaaoaaGreatDoorAl
set_option linter.all false
set_option maxHeartbeats 1600000
set_option maxRecDepth 100000
namespace Go.Proofs.YtminjjdnmpaaoaaGreatDoor
open Go Go.RowKit
def wdR {α:Type}:Result α→World
 | .ok _ w=>w
 | .halt _ w=>w
theorem zM6 {α:Type} (a:Ask α):∀ (w:World),w.drawn≤(w.ask a).2.drawn:=by
 induction a with
 | done a=>intro w;exact nR _
 | ask what range k ih=>
   intro w
   rw[World.ask]
   split
   ·exact ih _ w
   ·exact nT (Nat.le_succ _) (ih _ { w with drawn:=w.drawn+1})
theorem zML (w:World) (c:Sys):w.drawn≤(w.sys c).2.drawn:=by
 unfold World.sys
 split
 ·exact nR _
 ·rename_i h
  have:=zM6 (Kernel.perform c w.os) w
  rw[h] at this
  exact this
theorem zFa {P:Program} {w w':World} {at_:Addr} {u:TypeId} {k:Addr} {v:Value} {b:Bool} {l:List Addr} (h:w.viewStore P at_ u k v b=.ok (w',l)):w'.drawn=w.drawn:=by
 unfold World.viewStore at h
 simp only[bind,Except.bind,pure,Except.pure,throw,throwThe,MonadExceptOf.throw,MonadExcept.throw] at h
 repeat' split at h
 all_goals first
  | (cases h;done)
  | (cases h;rfl)
theorem zDy {P:Program} {w w':World} {a:Addr} {v:Value} {b:Bool} {l:List Addr} (h:w.farStore P a v b=.ok (w',l)):w'.drawn=w.drawn:=by
 unfold World.farStore at h
 split at h
 ·split at h
  ·rename_i h2
   cases h
   exact zFa h2
  ·cases h
 ·cases h
theorem zEv (w:World) (a:Addr) (n:Nat):(w.freeze a n).drawn=w.drawn:=by
 unfold World.freeze
 split<;>rfl
theorem zKe {α:Type} (P:Program) (s:Sem α):∀ w:World,w.drawn≤(wdR (s.run P w)).drawn:=by
 induction s with
 | pure a=>intro w;exact nR _
 | load m a k ih=>
   intro w
   unfold Sem.run
   split
   ·exact ih _ w
   ·split
    ·exact ih _ w
    ·exact nR _
 | store m a v k ih=>
   intro w
   rw[Sem.run.eq_def]
   split
   all_goals (rename_i heq;first|(cases heq;done)|cases heq)
   all_goals first
    | exact nR _
    | skip
   split
   ·split
    ·exact nR _
    ·exact ih (World.setCell _ _ _)
   ·split
    ·rename_i h
     exact nT (Nat.le_of_eq (zDy h).symm) (ih _)
    ·exact nR _
 | new o k ih=>intro w;exact ih _ { w with heap:=w.heap.push o}
 | shape r k ih=>intro w;exact ih _ w
 | freeze a n k ih=>intro w;have:=ih (w.freeze a n);rw[zEv] at this;exact this
 | frozen a k ih=>intro w;exact ih _ w
 | getObj r k ih=>
   intro w
   unfold Sem.run
   split
   ·exact nR _
   ·exact ih _ w
   ·exact nR _
 | setObj r o k ih=>
   intro w
   unfold Sem.run
   split
   ·exact nR _
   ·exact ih { w with heap:=w.heap.setIfInBounds r o}
   ·exact nR _
 | choose q k ih=>
   intro w
   unfold Sem.run
   split
   ·exact ih _ w
   ·exact nT (Nat.le_succ _) (ih _ { w with drawn:=w.drawn+1})
 | sys c k ih=>intro w;exact nT (zML w c) (ih _ _)
 | program k ih=>intro w;exact ih _ w
 | mark m k ih=>intro w;exact ih w
 | halt h=>intro w;exact nR _
theorem zGB {α:Type} (P:Program) (s:Sem α):∀ (w:World) (es:Array Event),w.drawn≤(wdR (s.runT P w es).1).drawn:=by
 induction s with
 | pure a=>intro w es;exact nR _
 | load m a k ih=>
   intro w es
   unfold Sem.runT
   split
   ·exact ih _ w _
   ·split
    ·exact ih _ w _
    ·exact nR _
 | store m a v k ih=>
   intro w es
   rw[Sem.runT.eq_def]
   split
   all_goals (rename_i heq;first|(cases heq;done)|cases heq)
   all_goals first
    | exact nR _
    | skip
   split
   ·split
    ·exact nR _
    ·exact ih (World.setCell _ _ _) _
   ·split
    ·rename_i h
     exact nT (Nat.le_of_eq (zDy h).symm) (ih _ _)
    ·exact nR _
 | new o k ih=>intro w es;exact ih _ { w with heap:=w.heap.push o} _
 | shape r k ih=>intro w es;exact ih _ w _
 | freeze a n k ih=>intro w es;have:=ih (w.freeze a n) es;rw[zEv] at this;exact this
 | frozen a k ih=>intro w es;exact ih _ w _
 | getObj r k ih=>
   intro w es
   unfold Sem.runT
   split
   ·exact nR _
   ·exact ih _ w _
   ·exact nR _
 | setObj r o k ih=>
   intro w es
   unfold Sem.runT
   split
   ·exact nR _
   ·exact ih { w with heap:=w.heap.setIfInBounds r o} _
   ·exact nR _
 | choose q k ih=>
   intro w es
   unfold Sem.runT
   split
   ·exact ih _ w _
   ·exact nT (Nat.le_succ _) (ih _ { w with drawn:=w.drawn+1} _)
 | sys c k ih=>intro w es;exact nT (zML w c) (ih _ _ _)
 | program k ih=>intro w es;exact ih _ w _
 | mark m k ih=>intro w es;exact ih w _
 | halt h=>intro w es;exact nR _
theorem zA7 {α:Type} {P:Program} {s:Sem α} {w w':World} {a:α} (h:s.run P w=.ok a w'):w.drawn≤w'.drawn:=by
 have:=zKe P s w
 rw[h] at this
 exact this
theorem zL7 {α:Type} {P:Program} {s:Sem α} {w w':World} {e:Halt} (h:s.run P w=.halt e w'):w.drawn≤w'.drawn:=by
 have:=zKe P s w
 rw[h] at this
 exact this
theorem zCn {α:Type} {P:Program} {s:Sem α} {w:World} {es es':Array Event} {r:Result α} (h:s.runT P w es=(r,es')):w.drawn≤(wdR r).drawn:=by
 have:=zGB P s w es
 rw[h] at this
 exact this
def upG (d:Nat):GStep→Prop
 | .go _ w _=>d≤w.drawn
 | .comm _ _ _ _ w _=>d≤w.drawn
 | .spawn _ _ w _=>d≤w.drawn
 | .count _ w _=>d≤w.drawn
 | .timer _ _ w _=>d≤w.drawn
 | .alone _ _ w _=>d≤w.drawn
 | .newcoro _ _ _ w _=>d≤w.drawn
 | .coroswitch _ _ _ w _=>d≤w.drawn
 | .collect _ w _=>d≤w.drawn
 | .watch _ w _=>d≤w.drawn
 | .ended _ _ _=>True
theorem zDD {d:Nat} {es:Array Event} {g:GStep} (h:upG d g):upG d (g.after es):=by cases g<;>exact h
theorem zB8 {d d':Nat} {g:GStep} (h:upG d' g) (hd:d≤d'):upG d g:=by
 cases g
 all_goals first
  | exact nT hd h
  | exact trivial
theorem zHG {d:Nat} {c:Prop} [Decidable c] {a b:GStep} (ha:c→upG d a) (hb:¬c→upG d b):upG d (if c then a else b):=by
 by_cases h:c
 ·rw[if_pos h];exact ha h
 ·rw[if_neg h];exact hb h
theorem zDi {P:Program} {main:Bool} {fr:Frame} {cs:List Frame} {dy:Option Dying} {v:Value} {w:World}:upG w.drawn (doReturn P main fr cs dy v w):=by
 unfold doReturn
 repeat' split
 all_goals first
  | exact nR _
  | exact trivial
theorem zLX {fr:Frame} {a:List ByteArray} {m:String} {b:Bool} {w:World}:upG w.drawn (dieOf fr a m b w):=nR _
theorem zCt {fr:Frame} {m:String} {w:World}:upG w.drawn (endThrow fr m w):=nR _
theorem zDS {P:Program} {fr:Frame} {v:Value} {w:World}:upG w.drawn (endPrinting P fr v w):=by
 unfold endPrinting
 simp only
 split
 ·exact zCt
 ·exact trivial
theorem zE4 {P:Program} {fr:Frame} {cs:List Frame} {dy:Option Dying} {m:String} {w:World}:upG w.drawn (endFatal P fr cs dy m w):=by
 unfold endFatal
 simp only
 split
 ·rename_i h
  exact zB8 zLX (zA7 h)
 ·exact trivial
 ·exact trivial
theorem zJt {w:World} {fd:Nat} {t:ByteArray} {o:Outcome} {d:Nat}:upG d (endWith w fd t o):=by
 unfold endWith
 simp only
 repeat' split
 all_goals exact trivial
theorem zEp {P:Program} {fr:Frame} {cs:List Frame} {dy:Option Dying} {d:Deferred} {w:World}:upG w.drawn (callDeferred P fr cs dy d w):=by
 unfold callDeferred
 refine zHG (fun _=>trivial) (fun _=>?_)
 rcases hX:Sem.runT P (invoke d.target d.args) w #[] with ⟨r,es⟩
 have h:=zCn hX
 clear hX
 simp only
 refine zDD ?_
 split
 all_goals first
  | exact h
  | exact trivial
  | exact zB8 zE4 h
  | exact zB8 zCt h
  | (split<;>exact h)
theorem zKc {P:Program} {main:Bool} {fr:Frame} {cs:List Frame} {dy:Option Dying} {w:World}:upG w.drawn (unwind P main fr cs dy w):=by
 unfold unwind
 split
 ·rename_i block _ _ _
  rcases hX:Sem.runT P (Instr.takeDeferred block) w #[] with ⟨r,es⟩
  have h:=zCn hX
  simp only
  refine zDD ?_
  cases r with
  | ok a w'=>exact h
  | halt e w'=>exact trivial
 ·exact zEp
 ·split
  ·exact trivial
  ·refine zHG (fun _=>trivial) (fun _=>?_)
   split
   ·exact nR _
   ·split
    ·refine zHG (fun _=>nR _) (fun _=>?_)
     split
     ·rename_i h
      exact zA7 h
     ·exact trivial
     ·exact trivial
    ·split
     ·exact zDS
     ·exact trivial
  ·split
   ·exact zDi
   ·rename_i fn _
    rcases hX:Sem.runT P (results fn fr.tmps) w #[] with ⟨r,es⟩
    have h:=zCn hX
    simp only
    refine zDD ?_
    cases r with
    | ok a w'=>exact zB8 zDi h
    | halt e w'=>cases e<;>exact trivial
theorem zJU {P:Program} {fr:Frame} {d:Dying} {f:Fatal} {w:World}:upG w.drawn (writeOn P fr d f w):=by
 unfold writeOn
 simp only
 split
 ·exact trivial
 ·split
  ·rename_i h
   exact zCn h
  ·rename_i h
   exact zCn h
  ·exact trivial
  ·exact trivial
theorem zM3 {P:Program} {fr:Frame} {d:Dying} {w:World}:upG w.drawn (die P fr d w):=by
 unfold die
 split
 ·exact zJU
 ·split
  ·refine zHG (fun _=>nR _) (fun _=>zJt)
  ·simp only
   split
   ·exact nR _
   ·split
    ·rename_i h
     exact zA7 h
    ·exact trivial
   ·rename_i t recv name _
    rcases hX:Sem.runT P (invoke (.fn (.method name) #[]) #[.iface t recv]) w #[] with ⟨r,es⟩
    have h:=zCn hX
    simp only
    refine zDD ?_
    split
    ·exact h
    ·exact h
    ·exact trivial
    ·exact zB8 zDS h
    ·exact trivial
   ·exact trivial
theorem zLz {P:Program} {fr:Frame} {cs:List Frame} {dy:Option Dying} {g:Nat} {w:World}:upG w.drawn (early P fr cs dy g w):=by
 unfold early
 simp only
 repeat' first
  | exact nR _
  | exact trivial
  | exact (zA7 ‹Sem.run P (choose (Question.early g)) w=Result.ok _ _›:w.drawn≤_)
  | split
theorem zDv {P:Program} {li:Bool} {fr:Frame} {cs:List Frame} {dy:Option Dying} {s:Sem Next} {w:World}:upG w.drawn (stepG.apply P li fr cs dy s w):=by
 unfold stepG.apply
 simp only
 rcases hX:(if li then s.runT P w #[] else (s.run P w,#[])) with ⟨r,es⟩
 have h:w.drawn≤(wdR r).drawn:=by
  cases li with
  | true=>exact zCn (by simpa using hX)
  | false=>
    have:r=s.run P w:=by simpa using (congrArg Prod.fst hX).symm
    rw[this]
    exact zKe P s w
 clear hX
 simp only
 refine zDD ?_
 split
 all_goals first
  | exact h
  | exact trivial
  | exact zB8 zE4 h
  | exact zB8 zCt h
  | exact zB8 zLz h
  | (refine zHG (fun _=>zB8 zCt h) (fun _=>h))
  | ((repeat' split)<;>exact h)
theorem zKY {P:Program} {li:Bool} {fr:Frame} {cs:List Frame} {dy:Option Dying} {w:World}:upG w.drawn (stepG.oper P li fr cs dy w):=by
 unfold stepG.oper
 repeat' split
 all_goals first
  | exact trivial
  | exact zDv
theorem zLH {α:Type} {P:Program} {s:Sem α} {w w':World} {es:Array Event} {a:α} (h:(s.runT P w es).1=.ok a w'):w.drawn≤w'.drawn:=by
 have:=zGB P s w es
 rw[h] at this
 exact this
theorem zLb {α:Type} {P:Program} {s:Sem α} {w w':World} {es:Array Event} {e:Halt} (h:(s.runT P w es).1=.halt e w'):w.drawn≤w'.drawn:=by
 have:=zGB P s w es
 rw[h] at this
 exact this
theorem zKs {α:Type} {d:Nat} {o:Option α} {a:GStep} {f:α→GStep} (ha:upG d a) (hf:∀ x,upG d (f x)):upG d (o.elim a f):=by
 cases o
 ·exact ha
 ·exact hf _
theorem zMX {P:Program} {main:Bool} {li:Bool} {fr:Frame} {cs:List Frame} {dy:Option Dying} {w:World}:upG w.drawn (stepG.exec P main li fr cs dy w):=by
 unfold stepG.exec
 simp only
 split
 all_goals first
  | exact nR _
  | exact trivial
  | exact zDv
  | exact zKY
  | skip
 all_goals
  repeat' first
   | exact nR _
   | exact trivial
   | exact zDv
   | exact zKY
   | exact zB8 zDi (zLH (by assumption))
   | exact zB8 zDv (zLH (by assumption))
   | exact zLH (by assumption)
   | exact zLb (by assumption)
   | exact zA7 (by assumption)
   | refine zKs ?_ (fun _=>nR _)
   | refine zKs trivial (fun _=>zDv)
   | refine zDD ?_
   | split
theorem zL2 {P:Program} {main:Bool} {g:Goroutine} {li:Bool} {w:World}:upG w.drawn (stepG P main g w li):=by
 unfold stepG
 simp only
 split
 ·exact zM3
 ·exact zMX
 ·exact zKc
def upDr (d:Nat):Stepped→Prop
 | .next m=>d≤m.world.drawn
 | .ended _ _=>True
theorem zFW {rest:Rest} {cs:Array CommCase} {w w':World} (h:waitingAt rest cs w=some w'):w.drawn≤w'.drawn:=by
 unfold waitingAt at h
 repeat' split at h
 all_goals first
  | (cases h;exact nR _)
  | (cases h;done)
theorem zFc {P:Program} {rest:Rest} {gs:Array Goroutine} {i:Nat} {g:Goroutine} {cs:Array CommCase} {b:Bool} {sh:CommShape} {w:World}:upDr w.drawn (communicate P rest gs i g cs b sh w).1:=by
 unfold communicate
 simp only
 repeat' first
  | exact nR _
  | exact trivial
  | exact zFW (by assumption)
  | exact zA7 (by assumption)
  | split
 all_goals (simp only[upDr])
 all_goals first
  | exact zA7 (by assumption)
  | exact nT (zA7 (by assumption)) (zL7 (by assumption))
  | exact nT (zA7 (by assumption)) (zA7 (by assumption))
theorem zKA {P:Program} {rest:Rest} {gs:Array Goroutine} {w:World}:upDr w.drawn (look P gs rest w):=by
 unfold look
 simp only
 repeat' first
  | exact nR _
  | exact trivial
  | exact zA7 (by assumption)
  | split
 all_goals (simp only[upDr])
 all_goals exact zA7 (by assumption)
theorem zLv {P:Program} {m:Machine} {k:Nat}:upDr m.world.drawn (serve P m k):=by
 unfold serve
 simp only
 repeat' first
  | exact nR _
  | exact trivial
  | split
theorem zJN (w:World) (c:Nat):(drain w c).2.drawn=w.drawn:=by
 unfold drain
 split<;>rfl
theorem zEu (m:Machine) (k:Nat) (t:Timer) (a b:Nat):(retime m k t a b).2.world.drawn=m.world.drawn:=by
 unfold retime
 simp only
 split
 ·exact zJN _ _
 ·rfl
theorem zIs {m:Machine} {var:Addr} {f:Nat→Timer→Value×Machine} {v:Value} {m':Machine} {d:Nat} (hf:∀ k t,(f k t).2.world.drawn=d) (h:timerOp.named m var f=.ok (v,m')):m'.world.drawn=d:=by
 unfold timerOp.named at h
 split at h
 ·rename_i k _
  have h2:=hf k (m.rest.timers.getD k default)
  injection h with h
  rw[h] at h2
  exact h2
 ·cases h
theorem zGh {m m':Machine} {op:TimerOp} {v:Value} (h:timerOp m op=.ok (v,m')):m'.world.drawn=m.world.drawn:=by
 unfold timerOp at h
 split at h
 ·repeat' split at h
  all_goals first
   | (cases h;rfl)
   | (cases h;done)
 ·exact zIs (fun k t=>zEu _ _ _ _ _) h
 ·split at h
  ·rename_i m2 h2
   have:m2.world.drawn=m.world.drawn:=by
    unfold timerOp.opened at h2
    repeat' split at h2
    all_goals first
     | (cases h2;rfl)
     | (cases h2;done)
   rw[←this]
   exact zIs (fun k t=>zEu _ _ _ _ _) h
  ·cases h
 ·cases h;rfl
theorem zCp {d d':Nat} {s:Stepped} (h:upDr d' s) (hd:d≤d'):upDr d s:=by
 cases s
 ·exact nT hd h
 ·exact trivial
theorem zMj {P:Program} {m:Machine} {i:Nat} {li:Bool}:upDr m.world.drawn (Go.runT P m i li).1:=by
 unfold Go.runT
 rcases hs:m.gs.swapAt! i { (default:Goroutine) with status:=.finished} with ⟨g,gs⟩
 have h:=zL2 (P:=P) (main:=i==0) (g:=g) (li:=li) (w:=m.world)
 simp only
 generalize stepG P (i==0) g m.world li=s at *
 split
 all_goals (simp only[upG] at h)
 all_goals first
  | exact h
  | exact trivial
  | exact zCp zFc h
  | exact zCp zKA h
  | (split<;>exact h)
  | (split<;>first|exact h|exact trivial)
  | skip
 ·split
  ·rename_i hq
   exact nT h (Nat.le_of_eq (zGh hq).symm)
  ·split
   ·rename_i hq
    cases hq
    exact h
   ·exact trivial
  ·exact trivial
  ·exact trivial
def upM (d:Nat):Move→Prop
 | .goroutine m _=>d≤m.world.drawn
 | .machine s _=>upDr d s
theorem zK6 {α:Type} {P:Program} {s:Sem α} {m:Machine} {t:Nat} {a:α} {w':World} (h:s.run P (m.advanceTo t).world=.ok a w'):m.world.drawn≤w'.drawn:=by
 have:=zA7 h
 exact this
theorem zGI {P:Program} {m:Machine}:upM m.world.drawn (askOn P m):=by
 unfold askOn
 simp only
 split
 ·exact trivial
 ·rename_i k w1 h1
  have h1':=zA7 h1
  clear h1
  split
  ·exact zCp zLv h1'
  ·split
   ·split
    ·exact h1'
    ·split
     ·exact h1'
     ·split<;>exact trivial
   ·split
    ·repeat' first
      | exact trivial
      | split
     all_goals (simp only[upM])
     all_goals first
      | exact nT h1' (zA7 (by assumption))
      | exact nT h1' (nT (zA7 (by assumption)) (zA7 (by assumption)))
    ·split
     ·exact trivial
     ·rename_i h2
      have h2':=nT h1' (zA7 h2)
      clear h2
      repeat' first
       | exact trivial
       | split
      all_goals (simp only[upM])
      all_goals first
       | exact nT h2' (zA7 (by assumption))
       | exact nT h2' (nT (zA7 (by assumption)) (zA7 (by assumption)))
     ·rename_i h2
      have h2':=nT h1' (zA7 h2)
      exact h2'
     ·rename_i h2
      have h2':=nT h1' (zA7 h2)
      clear h2
      repeat' first
       | exact trivial
       | split
      all_goals (simp only[upM])
      all_goals first
       | (have h3:=zK6 ‹Sem.run P (choose (Question.sched _)) _=Result.ok _ _›;exact nT h2' h3)
       | (have h3:=zK6 ‹Sem.run P (choose (Question.sched _)) _=Result.ok _ _›;exact nT h2' (nT h3 (zA7 (by assumption))))
theorem zIi {d d':Nat} {s:Move} (h:upM d' s) (hd:d≤d'):upM d s:=by
 cases s
 ·exact nT hd h
 ·exact zCp h hd
theorem zMQ {P:Program} {m:Machine}:upM m.world.drawn (ask P m):=by
 unfold ask
 split
 ·split
  ·exact trivial
  ·rename_i h1
   have h2:=zCp (zKA (P:=P) (rest:=m.rest) (gs:=m.gs)) (zA7 h1)
   split
   ·rename_i h3
    rw[h3] at h2
    exact zIi zGI h2
   ·exact h2
  ·rename_i h1
   exact zIi zGI (zA7 h1)
 ·exact zGI
theorem zMr {P:Program} {m:Machine}:upM m.world.drawn (move P m):=by
 unfold move
 split
 ·split
  ·exact nR _
  ·exact trivial
 ·split
  ·split
   ·exact nR _
   ·exact zMQ (m:={ m with rest:=_})
  ·exact zMQ
theorem zMp {P:Program} {m:Machine}:upDr m.world.drawn (step P m):=by
 unfold step stepT
 have h:=zMr (P:=P) (m:=m)
 split
 ·rename_i hq
  rw[hq] at h
  exact zCp zMj h
 ·rename_i hq
  rw[hq] at h
  exact h
theorem zKh {P:Program}:∀ (n:Nat) (m:Machine),upDr m.world.drawn (runN P n m)
 | 0,m=>nR _
 | n+1,m=>by
   have h:=zMp (P:=P) (m:=m)
   unfold runN
   split
   ·rename_i hq
    rw[hq] at h
    exact zCp (zKh n _) h
   ·exact h
theorem zLP {P:Program} {m m':Machine} (h:Steps P m m'):m.world.drawn≤m'.world.drawn:=by
 obtain ⟨n,hn⟩:=h
 have:=zKh (P:=P) n m
 rw[hn] at this
 exact this
theorem Calls.drawn {P:Program} {f:FuncId} {args:Array Value} {w:World} {v:Value} {R:World→Prop} (h:Calls P f args w fun e w'=>e=.returned v∧R w') :
  Calls P f args w fun e w'=>e=.returned v∧R w'∧w.drawn≤w'.drawn:=fun cs=>by
 obtain ⟨e,w',fr,⟨rfl,hR⟩,hc,h1,h2⟩:=h cs
 exact ⟨_,w',fr,⟨rfl,hR,zLP (m:=lone (Frame.enter P f args .normal) cs w) (m':=lone fr cs w') hc⟩,hc,h1,h2⟩
end Go.Proofs.YtminjjdnmpaaoaaGreatDoor
namespace Go.Proofs
open Go.Shelf
def Tryz.sortDir_ren:Go.Shelf.Ren:=⟨fun|6=>24|15=>52|14=>51|28=>90|29=>91|20=>82|21=>83|22=>84|23=>85|24=>86|25=>87|26=>88|27=>89|46=>132|47=>133|48=>134|49=>135|50=>136|57=>159|n=>n,fun|22=>31|24=>54|25=>82|3=>3|39=>122|0=>0|53=>158|55=>160|4=>4|46=>151|45=>150|50=>155|5=>5|9=>9|66=>193|70=>197|76=>222|77=>223|n=>n,fun|n=>n⟩
theorem Tryz.sortDir:Go.Proofs.SlLaysF0.n6 Tryz.prog Tryz.sortDir_ren:={
 mixed:=by kernel_rfl
 f6:=⟨Tryz.f24.name,by decide,Tryz.func24.trans (congrArg some (by kernel_rfl))⟩
 f14:=⟨Tryz.f51.name,by decide,Tryz.func51.trans (congrArg some (by kernel_rfl))⟩
 f15:=Tryz.func52.trans (congrArg some (by kernel_rfl))
 f20:=⟨Tryz.f82.name,by decide,Tryz.func82.trans (congrArg some (by kernel_rfl))⟩
 f21:=⟨Tryz.f83.name,by decide,Tryz.func83.trans (congrArg some (by kernel_rfl))⟩
 f22:=⟨Tryz.f84.name,by decide,Tryz.func84.trans (congrArg some (by kernel_rfl))⟩
 f23:=⟨Tryz.f85.name,by decide,Tryz.func85.trans (congrArg some (by kernel_rfl))⟩
 f24:=⟨Tryz.f86.name,by decide,Tryz.func86.trans (congrArg some (by kernel_rfl))⟩
 f25:=⟨Tryz.f87.name,by decide,Tryz.func87.trans (congrArg some (by kernel_rfl))⟩
 f26:=⟨Tryz.f88.name,by decide,Tryz.func88.trans (congrArg some (by kernel_rfl))⟩
 f27:=⟨Tryz.f89.name,by decide,Tryz.func89.trans (congrArg some (by kernel_rfl))⟩
 f28:=Tryz.func90.trans (congrArg some (by kernel_rfl))
 f29:=Tryz.func91.trans (congrArg some (by kernel_rfl))
 f46:=⟨Tryz.f132.name,by decide,Tryz.func132.trans (congrArg some (by kernel_rfl))⟩
 f47:=Tryz.func133.trans (congrArg some (by kernel_rfl))
 f48:=Tryz.func134.trans (congrArg some (by kernel_rfl))
 f49:=⟨Tryz.f135.name,by decide,Tryz.func135.trans (congrArg some (by kernel_rfl))⟩
 f50:=⟨Tryz.f136.name,by decide,Tryz.func136.trans (congrArg some (by kernel_rfl))⟩
 f57:=⟨Tryz.f159.name,by decide,Tryz.func159.trans (congrArg some (by kernel_rfl))⟩
 t0:=Tryz.underlying0
 a0:=Tryz.isAgg0
 z0:=Tryz.sizeOf0
 v0:=Tryz.zeroValue0
 t3:=Tryz.underlying3
 a3:=Tryz.isAgg3
 z3:=Tryz.sizeOf3
 v3:=Tryz.zeroValue3
 t4:=Tryz.underlying4
 a4:=Tryz.isAgg4
 z4:=Tryz.sizeOf4
 v4:=Tryz.zeroValue4
 t5:=Tryz.underlying5
 a5:=Tryz.isAgg5
 z5:=Tryz.sizeOf5
 v5:=Tryz.zeroValue5
 t9:=Tryz.underlying9
 a9:=Tryz.isAgg9
 z9:=Tryz.sizeOf9
 v9:=Tryz.zeroValue9
 t22:=Tryz.underlying31
 a22:=Tryz.isAgg31
 z22:=Tryz.sizeOf31
 v22:=Tryz.zeroValue31
 t25:=Tryz.underlying82
 a25:=Tryz.isAgg82
 z25:=Tryz.sizeOf82
 v25:=Tryz.zeroValue82
 t39:=Tryz.underlying122
 a39:=Tryz.isAgg122
 z39:=Tryz.sizeOf122
 v39:=Tryz.zeroValue122
 t45:=Tryz.underlying150
 a45:=Tryz.isAgg150
 z45:=Tryz.sizeOf150
 v45:=Tryz.zeroValue150
 t46:=Tryz.underlying151
 a46:=Tryz.isAgg151
 z46:=Tryz.sizeOf151
 v46:=Tryz.zeroValue151
 t50:=Tryz.underlying155
 a50:=Tryz.isAgg155
 z50:=Tryz.sizeOf155
 v50:=Tryz.zeroValue155
 t53:=Tryz.underlying158
 a53:=Tryz.isAgg158
 z53:=Tryz.sizeOf158
 v53:=Tryz.zeroValue158
 t55:=Tryz.underlying160
 a55:=Tryz.isAgg160
 z55:=Tryz.sizeOf160
 v55:=Tryz.zeroValue160
 t66:=Tryz.underlying193
 a66:=Tryz.isAgg193
 z66:=Tryz.sizeOf193
 v66:=Tryz.zeroValue193
 t70:=Tryz.underlying197
 a70:=Tryz.isAgg197
 z70:=Tryz.sizeOf197
 v70:=Tryz.zeroValue197
 t76:=Tryz.underlying222
 a76:=Tryz.isAgg222
 z76:=Tryz.sizeOf222
 v76:=Tryz.zeroValue222
 t77:=Tryz.underlying223
 a77:=Tryz.isAgg223
 z77:=Tryz.sizeOf223
 v77:=Tryz.zeroValue223}
end Go.Proofs
namespace Go.Proofs.YtminjjdnmpaaoaaGreatDoor
open Go.Rows Go.RowKit Go.Shelf Go.Sort
theorem zHK:∀ a b:List UInt8,(Lib.compareBytes a b<0↔a<b)∧(Lib.compareBytes a b=0↔a=b)
 | [],[]=>by simp[Lib.compareBytes]
 | [],_::_=>by simp[Lib.compareBytes]
 | _::_,[]=>by simp[Lib.compareBytes]
 | x::a,y::b=>by
   have ih:=zHK a b
   rw[Lib.compareBytes,List.cons_lt_cons_iff,List.cons.injEq]
   by_cases h1:x<y
   ·have hne:x≠y:=fun e=>by subst e;exact UInt8.lt_irrefl x h1
    simp[h1,hne]
   ·by_cases h2:y<x
    ·have hne:x≠y:=fun e=>by subst e;exact UInt8.lt_irrefl x h2
     simp[h1,h2,hne]
    ·have he:x=y:=UInt8.le_antisymm (UInt8.not_lt.1 h2) (UInt8.not_lt.1 h1)
     simp[h1,h2,he,ih.1,ih.2]
abbrev RdT (w:World) (S:Nat→Prop):={ p:Dir×List Value // rDir.holds w S p.1 p.2∧p.1.path.length * 32≤140737488355328}
def zBT:List Value:=[.slice none 0 0,.string ⟨#[]⟩,.int .i64 0,.int .i64 0,.int .i64 0,.slice none 0 0,.slice none 0 0,.slice none 0 0,.int .i64 0]
theorem zD7 (w:World) (S:Nat→Prop):rDir.holds w S dirZ0 zBT:=
 have h0:I64 0:=⟨by decide,by decide⟩
 ⟨_,_,_,_,rfl,SlV.nil_ _ _ _,by decide,h0,h0,h0,SlV.nil_ _ _ _,SlV.nil_ _ _ _,SlV.nil_ _ _ _,h0⟩
instance {w:World} {S:Nat→Prop}:Inhabited (RdT w S):=⟨⟨(dirZ0,zBT),zD7 w S,by decide⟩⟩
section
variable {w:World} {S:Nat→Prop}
def encRt (x:RdT w S):List Value:=x.1.2
def cfRt (x y:RdT w S):Int:=Lib.compareBytes (textB x.1.1.path).data.toList (textB y.1.1.path).data.toList
theorem ltRt (x y:RdT w S):ltOf cfRt x y=decide ((textB x.1.1.path).data.toList<(textB y.1.1.path).data.toList):=by
 unfold ltOf cfRt
 exact decide_eq_decide.2 (zHK _ _).1
theorem swoRt:SWO (ltOf (cfRt (w:=w) (S:=S))) where
 irrefl x:=by rw[ltRt];simp
 trans x y z h1 h2:=by rw[ltRt] at *;simp at *;exact List.lt_trans h1 h2
 ntrans x y z h1 h2:=by
  rw[ltRt] at *
  simp only[decide_eq_false_iff_not] at *
  exact List.not_lt.2 (List.le_trans (List.not_lt.1 h2) (List.not_lt.1 h1))
end
theorem zM1 {W W':World} (h:Below W.heap.size W W') (hd:W.drawn≤W'.drawn):∃ q os',W'=grow (W.drewN q) os':=by
 obtain ⟨p,hp⟩:=regrown_of_below h
 have e:W'.drawn=p.d:=by rw[hp];rfl
 refine ⟨p.d - W.drawn,p.os,?_⟩
 rw[hp]
 congr 1
 unfold redrawn World.drewN
 congr 1
 omega
theorem zC5 (w:World) (g o m:Nat) (dk:Array Value) (os:Array Obj) {k:Nat} (hk:k<w.heap.size) (hne:k≠g):(sortWorld id w g o m dk os).heap[k]?=w.heap[k]?:=by
 unfold sortWorld
 have hs:(putRow id (Sort.ahead w m) g o dk).heap.size=w.heap.size:=size_putRow id (Sort.ahead w m) g o dk
 rw[heap_grow_old _ _ (by rw[hs];exact hk)]
 unfold putRow mapBlock
 simp only[Array.getElem?_modify]
 rw[if_neg (fun e=>hne e.symm)]
 rfl
theorem zCh (w:World) (g o m:Nat) (dk:Array Value) (os:Array Obj):w.grownBy (sortWorld id w g o m dk os) (some g):=by
 refine ⟨rfl,rfl,rfl,?_,fun k hk hne=>zC5 w g o m dk os hk (fun e=>hne (by rw[e]))⟩
 unfold sortWorld
 rw[size_grow,size_putRow]
 show w.heap.size≤w.heap.size+os.size
 omega
theorem zKD {w:World} {b:Nat} (h:FreeB w b) (g o m:Nat) (dk:Array Value) (os:Array Obj):FreeB (sortWorld id w g o m dk os) b:=by
 by_cases e:b=g
 ·subst e
  obtain ⟨cs,t,hc⟩:=h
  obtain ⟨hlt,hk⟩:=aS.1 hc
  refine ⟨putCells id o dk cs,t,?_⟩
  unfold sortWorld
  show ((w.heap.modify b (onCells (putCells id o dk)))++os)[b]?=_
  rw[Array.getElem?_append_left (by rw[Array.size_modify];exact hlt),Array.getElem?_eq_getElem (by rw[Array.size_modify];exact hlt),Array.getElem_modify_self,hk]
  rfl
 ·exact h.same (zC5 w g o m dk os h.lt e)
theorem zIo (w:World) (oa ob:Obj):((w.alloc oa).alloc ob).heap[w.heap.size]?=some oa∧((w.alloc oa).alloc ob).heap[w.heap.size+1]?=some ob:=by
 have hsz:w.heap.size+1=(w.alloc oa).heap.size:=by simp
 refine ⟨(Below.heap_alloc (w.alloc oa) ob w.heap.size (by rw[←hsz];exact Nat.lt_succ_self _)).trans (zAD w oa),?_⟩
 rw[hsz];exact zAD (w.alloc oa) ob
theorem zM0 (x y:Dir) (cs ds:List Value) (W:World) (S:Nat→Prop) (hx:rDir.holds W S x cs) (hy:rDir.holds W S y ds) (hxl:x.path.length * 32≤140737488355328) (hyl:y.path.length * 32≤140737488355328) :
  Calls Tryz.prog 25 #[.agg cs.toArray,.agg ds.toArray] W fun e w'=>e=.returned (.int .i64 (Lib.compareBytes (textB x.path).data.toList (textB y.path).data.toList))∧Below W.heap.size W w':=by
 obtain ⟨s0,s1,s2,s3,rfl,hp,_,_,_,_,_,_,_,_⟩:=hx
 obtain ⟨u0,u1,u2,u3,rfl,hq,_,_,_,_,_,_,_,_⟩:=hy
 obtain ⟨pA,pc,rfl,_,_⟩:=hp.val
 obtain ⟨qA,qc,rfl,_,_⟩:=hq.val
 have HT1:Hid (∀ V,Below W.heap.size W V→Calls Tryz.prog 19 #[.slice pA x.path.length pc] V fun e w'=>e=.returned (.string (textB x.path))∧Below V.heap.size V w'):=fun V hV=>zCS _ _ _ x.path V (fun b=>b<V.heap.size) (fun b h=>h) hxl ((hp.belowSize hV).more fun b h h'=>h')
 have HT2:Hid (∀ V,Below W.heap.size W V→Calls Tryz.prog 19 #[.slice qA y.path.length qc] V fun e w'=>e=.returned (.string (textB y.path))∧Below V.heap.size V w'):=fun V hV=>zCS _ _ _ y.path V (fun b=>b<V.heap.size) (fun b h=>h) hyl ((hq.belowSize hV).more fun b h h'=>h')
 have HCm:Hid (∀ V,Calls Tryz.prog 26 #[.string (textB x.path),.string (textB y.path)] V fun e w'=>e=.returned (.int .i64 (Lib.compareBytes (textB x.path).data.toList (textB y.path).data.toList))∧Below V.heap.size V w'):=fun V=>(Tryz.strings_Compare _ _ V).mono fun e w' ⟨h1,h2⟩=>⟨h1,by rw[h2];exact bR _ _⟩
 clear hp hq hxl hyl
 generalize Lib.compareBytes (textB x.path).data.toList (textB y.path).data.toList=R at *
 generalize textB x.path=tx at *
 generalize textB y.path=ty at *
 generalize x.path.length=lx at *
 generalize y.path.length=ly at *
 go_enter Tryz.func25,Tryz.ntmps25
 go_upto_region 1 with (fail)
 obtain ⟨w1,hw1⟩:∃ w1,w1=(W.alloc (.cells #[.slice pA lx pc,.string x.pack.name,.int .i64 x.pack.ver.major,.int .i64 x.pack.ver.minor,.int .i64 x.pack.ver.patch,s1,s2,s3,.int .i64 x.node] 54)).alloc (.cells #[.slice qA ly qc,.string y.pack.name,.int .i64 y.pack.ver.major,.int .i64 y.pack.ver.minor,.int .i64 y.pack.ver.patch,u1,u2,u3,.int .i64 y.node] 54):=⟨_,rfl⟩
 have hB1:Below W.heap.size W w1:=by rw[hw1];exact bal (bal (bR _ _) _) _
 have hq1:=(zIo W (.cells #[.slice pA lx pc,.string x.pack.name,.int .i64 x.pack.ver.major,.int .i64 x.pack.ver.minor,.int .i64 x.pack.ver.patch,s1,s2,s3,.int .i64 x.node] 54) (.cells #[.slice qA ly qc,.string y.pack.name,.int .i64 y.pack.ver.major,.int .i64 y.pack.ver.minor,.int .i64 y.pack.ver.patch,u1,u2,u3,.int .i64 y.node] 54))
 rw[←hw1] at hq1 ⊢
 have c0:=cO _ _ 0 _ _ _ hq1.1
 have d0:=cO _ _ 0 _ _ _ hq1.2
 have HB1:=cH hB1
 have HQ1:=cH (qcall (w:=w1) (fun V hV=>HT1.out V (bot HB1.out hV)))
 have HQ2:=cH (qcall (w:=w1) (fun V hV=>HT2.out V (bot HB1.out hV)))
 have HQ3:=cH (qcall (w:=w1) (fun V _=>HCm.out V))
 clear hw1 hB1 hq1
 have r_c0:=cR c0
 have r_d0:=cR d0
 go_wp2_with fail
 refine wQ ?_
 repeat (go_big_quiet_step (first|(with_reducible exact HQ1.out _ _)|(with_reducible exact HQ2.out _ _)|(with_reducible exact HQ3.out _ _)))
 refine wpQuiet_nil fun w2 B2=>?_
 go_wp2_with fail
 go_ret
 exact ⟨rfl,bot HB1.out B2⟩
theorem zJ0 {w:World} {base:Nat} {g cap:Nat} {l:List Dir} {S:Nat→Prop} (h:Own rDir w base 54 (.slice (some ⟨g,0,none⟩) l.length cap) l S) (hlen:∀ d∈l,d.path.length * 32≤140737488355328):∃ L:List (RdT w S),L.length=l.length∧L.map (fun x=>x.1.1)=l∧HoldsK encRt 9 w g 0 L.toArray:=by
 obtain ⟨h0,xs,h1,h2⟩:=h
 have key:∀ i (hi:i<l.length),∃ x:RdT w S,x.1.1=l[i]∧∀ (j:Nat) (u:Value),x.1.2[j]?=some u→w.cell? ⟨g,i * 9+j,none⟩=some u:=fun i hi=>by
  obtain ⟨cs,hc,hcell⟩:=h2.get i l[i] (gE hi)
  refine ⟨⟨(l[i],cs),hc,hlen _ (List.getElem_mem hi)⟩,rfl,fun j u hu=>?_⟩
  have h3:=h1.cells (g:=g) rfl _ u (hcell j u hu)
  rw[zD0,Nat.zero_add] at h3
  exact h3
 have hfr:∀ o,w.frozen? ⟨g,o,none⟩=false:=fun o=>by
  rcases h1.2 with ⟨q,_⟩|⟨g',cap',cur,q,_,hg,_⟩
  ·cases q
  ·simp only[Value.slice.injEq,Option.some.injEq,Addr.mk.injEq] at q
   obtain ⟨⟨rfl,_⟩,_⟩:=q
   simp[World.frozen?,hg]
 obtain ⟨f,hf⟩:∃ f:Nat→RdT w S,∀ i (hi:i<l.length),(f i).1.1=l[i]∧∀ (j:Nat) (u:Value),(f i).1.2[j]?=some u→w.cell? ⟨g,i * 9+j,none⟩=some u:=by
  refine ⟨fun i=>if hi:i<l.length then (key i hi).choose else default,fun i hi=>?_⟩
  simp only[dif_pos hi]
  exact (key i hi).choose_spec
 refine ⟨(List.range l.length).map f,by simp,?_,?_⟩
 ·apply List.ext_getElem
  ·simp
  ·intro i h1 h2
   simp only[List.length_map,List.length_range] at h1
   simp only[List.getElem_map,List.getElem_range]
   exact (hf i h1).1
 ·intro t ht
  rw[size_flatK,List.size_toArray,List.length_map,List.length_range] at ht
  have hi:t / 9<l.length:=by omega
  have hiL:t / 9<((List.range l.length).map f).toArray.size:=by simpa using hi
  rw[get_flatK _ _ _ _ (by rw[List.size_toArray,List.length_map,List.length_range];exact ht),getElem!_pos _ (t / 9) hiL]
  have hx:((List.range l.length).map f).toArray[t / 9]=f (t / 9):=by simp
  rw[hx]
  obtain ⟨_,hq⟩:=hf (t / 9) hi
  have hl9:(f (t / 9)).1.2.length=9:=rDir.len (f (t / 9)).2.1
  have hm:t % 9<(f (t / 9)).1.2.length:=by rw[hl9];omega
  refine ⟨?_,hfr _⟩
  have:=hq (t % 9) _ (gE hm)
  rw[show 0+t=t / 9 * 9+t % 9 from by omega,this]
  show some _=some ((f (t / 9)).1.2)[t % 9]!
  rw[getElem!_pos (f (t / 9)).1.2 (t % 9) hm]
theorem zJy {w W:World} {g cap:Nat} {S T:Nat→Prop} {L:List (RdT w S)} (h:HoldsK encRt 9 W g 0 L.toArray) (hT:T g) (hlt:g<W.heap.size) (hc:L.length≤cap) (hm:cap≤maxLen) (hS:∀ b,S b→b<w.heap.size→T b∧W.heap[b]?=w.heap[b]?):SlV rDir W T (L.map fun x=>x.1.1) (.slice (some ⟨g,0,none⟩) L.length cap):=by
 refine ⟨some ⟨g,0,none⟩,cap,by rw[List.length_map],by rw[List.length_map];exact hc,hm,(fun e=>by cases e),fun _=>⟨g,0,rfl,hT,hlt,fun i x hx=>?_⟩⟩
 rw[List.getElem?_map] at hx
 obtain ⟨y,hy,rfl⟩:=Option.map_eq_some_iff.1 hx
 obtain ⟨hi,hy⟩:=gS.1 hy
 refine ⟨y.1.2,rDir.mono y.2.1 hS,fun j u hu=>?_⟩
 have hl9:y.1.2.length=9:=rDir.len y.2.1
 have hj:j<9:=by have:=(gS.1 hu).1;omega
 have:=(h.cell (i:=i) (c:=j) (by rw[List.size_toArray];exact hi) hj).1
 simp only[rDir] at this ⊢
 rw[this,getElem!_pos L.toArray i (by rw[List.size_toArray];exact hi)]
 have hl:L.toArray[i]'(by rw[List.size_toArray];exact hi)=y:=by rw[←hy];rfl
 rw[hl]
 show some (y.1.2)[j]! = some u
 rw[getElem!_pos y.1.2 j (by omega),←hu,gE]
theorem zHo:zC2 Tryz.prog 25:=zCG Tryz.func25 (by kernel_rfl) rfl
theorem zIY (v:Value) (l:List Dir) (w:World) (base:Nat) (S:Nat→Prop) (hown:Own rDir w base 54 v l S) (hm:l.length≤1000000) (hpos:0<l.length) (hlen:∀ d∈l,d.path.length * 32≤140737488355328) (hn:(l.map fun d=>textB d.path).Nodup) :
  Calls Tryz.prog 24 #[v,.func (.func 25) #[] #[]] w fun e w'=>e=.returned (.tuple #[])∧SlV rDir w' (fun b=>S b∨v.ownBlock=some b) (sortD l) v∧w.grownBy w' v.ownBlock∧∀ b,FreeB w b→FreeB w' b:=by
 obtain ⟨A,cap,rfl,hcap,hmx⟩:=hown.slv.val
 obtain ⟨g,o,cs,he,_,hlt,_,_⟩:=hown.slv.elem (gE hpos)
 have hform:∃ cap',(Value.slice A l.length cap)=.slice (some ⟨g,0,none⟩) l.length cap':=by
  obtain ⟨_,xs,⟨_,q⟩,_⟩:=hown
  rcases q with ⟨_,q⟩|⟨g',cap',cur,q,hbg,_⟩
  ·omega
  ·simp only[Value.slice.injEq] at q
   rw[he] at q
   simp only[Option.some.injEq,Addr.mk.injEq] at q
   obtain ⟨⟨rfl,rfl,_⟩,_,rfl⟩:=q
   exact ⟨cap,by rw[he]⟩
 obtain ⟨cap',hv⟩:=hform
 rw[hv] at hown ⊢
 have hcap2:l.length≤cap'∧cap'≤maxLen:=by
  simp only[Value.slice.injEq] at hv
  omega
 have hSg:∀ b,S b→b≠g:=fun b hb e=>(hown.1 b hb).2 (by rw[e];rfl)
 obtain ⟨L,hLl,hLn,hH⟩:=zJ0 hown hlen
 rw[←hLl] at hcap2 hm ⊢
 have hcmp:CmpLays Tryz.prog 25 #[] (encRt (w:=w) (S:=S)) 9 cfRt g 0 L.toArray.size w:=fun m os dk hs x y=>by
  have hgr:w.grownBy (sortWorldK encRt 9 w g 0 m dk os) (some g):=zCh w g 0 m (flatK encRt 9 dk) os
  have hx:rDir.holds (sortWorldK encRt 9 w g 0 m dk os) S x.1.1 x.1.2:=Rp.keep x.2.1 fun b hb hl=>hgr.block b hl (fun e=>hSg b hb (Option.some.inj e))
  have hy:rDir.holds (sortWorldK encRt 9 w g 0 m dk os) S y.1.1 y.1.2:=Rp.keep y.2.1 fun b hb hl=>hgr.block b hl (fun e=>hSg b hb (Option.some.inj e))
  refine (Calls.drawn (zM0 x.1.1 y.1.1 x.1.2 y.1.2 _ S hx hy x.2.2 y.2.2)).mono ?_
  rintro e w' ⟨h1,h2,h3⟩
  exact ⟨h1,zM1 h2 h3⟩
 have hcon:=AnyQ.slices_SortFunc Tryz.sortDir 9 Tryz.isAgg54 Tryz.sizeOf54 (encRt (w:=w) (S:=S)) (fun x=>rDir.len x.2.1) (fun x u hu=>rDir.one x.2.1 u hu) cfRt swoRt 25 #[] g 0 cap' L.toArray w zHo
  hcmp hH hlt (by rw[List.size_toArray];omega)
 rw[List.size_toArray] at hcon
 refine hcon.mono ?_
 rintro e w' ⟨rfl,d',n,os,hp,hs,rfl⟩
 obtain ⟨hp1',_,hp3⟩:=hp
 have hp1:d'.size=L.length:=hp1'.trans (List.size_toArray ..)
 clear hp1'
 have hd:d'.toList.length=L.length:=by rw[Array.length_toList,hp1]
 have hperm:d'.toList.Perm L:=by
  have h1:(d'.extract 0 L.length).toList=d'.toList:=by rw[←hp1,Array.extract_size]
  have h2:(L.toArray.extract 0 L.length).toList=L:=by
   have:=Array.extract_size (xs:=L.toArray)
   rw[List.size_toArray] at this
   rw[this]
  rw[h1,h2] at hp3
  exact hp3
 have hH':HoldsK encRt 9 (sortWorldK encRt 9 w g 0 n d' os) g 0 d'.toList.toArray:=by
  rw[Array.toArray_toList]
  exact holdsK_grow encRt 9 _ os g 0 d' (by show g<(putRow id (Sort.ahead w n) g 0 _).heap.size;rw[size_putRow];exact hlt) (holdsK_putRowK encRt 9 (Sort.ahead w n) g 0 L.toArray d' (holdsK_ahead encRt 9 w n g 0 _ hH) (by rw[hp1,List.size_toArray]))
 have hgr:w.grownBy (sortWorldK encRt 9 w g 0 n d' os) (some g):=zCh w g 0 n (flatK encRt 9 d') os
 have hfin:d'.toList.map (fun x=>x.1.1)=sortD l:=by
  refine zGt hn ?_ ?_
  ·rw[←hLn];exact hperm.map _
  ·rw[List.pairwise_map]
   refine List.pairwise_iff_getElem.2 fun i j hi hj hij=>?_
   have:=hs i j (nZ _) hij (by omega)
   rw[ltRt,getElem!_pos d' j (by simpa using hj),getElem!_pos d' i (by simpa using hi)] at this
   unfold upD
   rw[zB3]
   simpa using this
 refine ⟨rfl,?_,hgr,fun b hb=>zKD hb g 0 n (flatK encRt 9 d') os⟩
 have:=zJy (T:=fun b=>S b∨(Value.slice (some ⟨g,0,none⟩) L.length cap').ownBlock=some b) (cap:=cap') hH' (.inr rfl) (lL hlt hgr.size) (by rw[hd];exact hcap2.1) hcap2.2 (fun b hb hl=>⟨.inl hb,hgr.block b hl (fun e=>hSg b hb (Option.some.inj e))⟩)
 rw[hd,hfin] at this
 exact this
