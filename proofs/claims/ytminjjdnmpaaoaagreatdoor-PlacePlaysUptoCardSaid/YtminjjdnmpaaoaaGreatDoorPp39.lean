/-
  A run never takes back what it has drawn: over any program, any machine.
  DERIVED: THE SHELF's CONTRACTS AT THIS DUMP, IN PLAIN WORDS (tools/lay-plain.mjs out of 'TryzShelf.lean', which tools/lay-shelf.mjs wrote): THE SAME DECLARATIONS UNDER THE SAME NAMES: 'import', 'namespace', 'open', 'def', 'theorem' AND NOTHING ELSE: no command of the shelf's: FOR A HAND-IN. Each laying: the table of numbers ('.._ren') and one theorem, a field a fact of the dump's own or the kernel's comparison; each contract: ONE APPLICATION.
-/
import Derived.Calls
import Derived.Lib.QuietBelow
import Derived.Shelf.SlGeneric
import Derived.Shelf.SlSortCmp.WholeK
import Derived.Shelf.SlSortCmp.NoneTotal
import Derived.Ground.SlsfProg
import Derived.Test.YtminjjdnmpaaoaaGreatDoorProg
set_option autoImplicit false
set_option relaxedAutoImplicit false
set_option linter.unusedVariables false
set_option linter.unusedSimpArgs false
namespace Go.Proofs.YtminjjdnmpaaoaaGreatDoor
open Go Go.RowKit

def wdR {α : Type} : Result α → World
  | .ok _ w => w
  | .halt _ w => w
theorem ask_le {α : Type} (a : Ask α) : ∀ (w : World), w.drawn ≤ (w.ask a).2.drawn := by
  induction a with
  | done a => intro w; exact Nat.le_refl _
  | ask what range k ih =>
    intro w
    rw [World.ask]
    split
    · exact ih _ w
    · exact Nat.le_trans (Nat.le_succ _) (ih _ { w with drawn := w.drawn + 1 })
theorem sys_le (w : World) (c : Sys) : w.drawn ≤ (w.sys c).2.drawn := by
  unfold World.sys
  split
  · exact Nat.le_refl _
  · rename_i h
    have := ask_le (Kernel.perform c w.os) w
    rw [h] at this
    exact this
theorem viewStore_same {P : Program} {w w' : World} {at_ : Addr} {u : TypeId} {k : Addr} {v : Value} {b : Bool} {l : List Addr} (h : w.viewStore P at_ u k v b = .ok (w', l)) : w'.drawn = w.drawn := by
  unfold World.viewStore at h
  simp only [bind, Except.bind, pure, Except.pure, throw, throwThe, MonadExceptOf.throw, MonadExcept.throw] at h
  repeat' split at h
  all_goals first
    | (cases h; done)
    | (cases h; rfl)
theorem farStore_same {P : Program} {w w' : World} {a : Addr} {v : Value} {b : Bool} {l : List Addr} (h : w.farStore P a v b = .ok (w', l)) : w'.drawn = w.drawn := by
  unfold World.farStore at h
  split at h
  · split at h
    · rename_i h2
      cases h
      exact viewStore_same h2
    · cases h
  · cases h
theorem freeze_same (w : World) (a : Addr) (n : Nat) : (w.freeze a n).drawn = w.drawn := by
  unfold World.freeze
  split <;> rfl
theorem run_le {α : Type} (P : Program) (s : Sem α) : ∀ w : World, w.drawn ≤ (wdR (s.run P w)).drawn := by
  induction s with
  | pure a => intro w; exact Nat.le_refl _
  | load m a k ih =>
    intro w
    unfold Sem.run
    split
    · exact ih _ w
    · split
      · exact ih _ w
      · exact Nat.le_refl _
  | store m a v k ih =>
    intro w
    rw [Sem.run.eq_def]
    split
    all_goals (rename_i heq; first | (cases heq; done) | cases heq)
    all_goals first
      | exact Nat.le_refl _
      | skip
    split
    · split
      · exact Nat.le_refl _
      · exact ih (World.setCell _ _ _)
    · split
      · rename_i h
        exact Nat.le_trans (Nat.le_of_eq (farStore_same h).symm) (ih _)
      · exact Nat.le_refl _
  | new o k ih => intro w; exact ih _ { w with heap := w.heap.push o }
  | shape r k ih => intro w; exact ih _ w
  | freeze a n k ih => intro w; have := ih (w.freeze a n); rw [freeze_same] at this; exact this
  | frozen a k ih => intro w; exact ih _ w
  | getObj r k ih =>
    intro w
    unfold Sem.run
    split
    · exact Nat.le_refl _
    · exact ih _ w
    · exact Nat.le_refl _
  | setObj r o k ih =>
    intro w
    unfold Sem.run
    split
    · exact Nat.le_refl _
    · exact ih { w with heap := w.heap.setIfInBounds r o }
    · exact Nat.le_refl _
  | choose q k ih =>
    intro w
    unfold Sem.run
    split
    · exact ih _ w
    · exact Nat.le_trans (Nat.le_succ _) (ih _ { w with drawn := w.drawn + 1 })
  | sys c k ih => intro w; exact Nat.le_trans (sys_le w c) (ih _ _)
  | program k ih => intro w; exact ih _ w
  | mark m k ih => intro w; exact ih w
  | halt h => intro w; exact Nat.le_refl _
theorem runT_run {α : Type} (P : Program) (s : Sem α) : ∀ (w : World) (es : Array Event), w.drawn ≤ (wdR (s.runT P w es).1).drawn := by
  induction s with
  | pure a => intro w es; exact Nat.le_refl _
  | load m a k ih =>
    intro w es
    unfold Sem.runT
    split
    · exact ih _ w _
    · split
      · exact ih _ w _
      · exact Nat.le_refl _
  | store m a v k ih =>
    intro w es
    rw [Sem.runT.eq_def]
    split
    all_goals (rename_i heq; first | (cases heq; done) | cases heq)
    all_goals first
      | exact Nat.le_refl _
      | skip
    split
    · split
      · exact Nat.le_refl _
      · exact ih (World.setCell _ _ _) _
    · split
      · rename_i h
        exact Nat.le_trans (Nat.le_of_eq (farStore_same h).symm) (ih _ _)
      · exact Nat.le_refl _
  | new o k ih => intro w es; exact ih _ { w with heap := w.heap.push o } _
  | shape r k ih => intro w es; exact ih _ w _
  | freeze a n k ih => intro w es; have := ih (w.freeze a n) es; rw [freeze_same] at this; exact this
  | frozen a k ih => intro w es; exact ih _ w _
  | getObj r k ih =>
    intro w es
    unfold Sem.runT
    split
    · exact Nat.le_refl _
    · exact ih _ w _
    · exact Nat.le_refl _
  | setObj r o k ih =>
    intro w es
    unfold Sem.runT
    split
    · exact Nat.le_refl _
    · exact ih { w with heap := w.heap.setIfInBounds r o } _
    · exact Nat.le_refl _
  | choose q k ih =>
    intro w es
    unfold Sem.runT
    split
    · exact ih _ w _
    · exact Nat.le_trans (Nat.le_succ _) (ih _ { w with drawn := w.drawn + 1 } _)
  | sys c k ih => intro w es; exact Nat.le_trans (sys_le w c) (ih _ _ _)
  | program k ih => intro w es; exact ih _ w _
  | mark m k ih => intro w es; exact ih w _
  | halt h => intro w es; exact Nat.le_refl _
theorem run_ok {α : Type} {P : Program} {s : Sem α} {w w' : World} {a : α} (h : s.run P w = .ok a w') : w.drawn ≤ w'.drawn := by
  have := run_le P s w
  rw [h] at this
  exact this
theorem run_halt {α : Type} {P : Program} {s : Sem α} {w w' : World} {e : Halt} (h : s.run P w = .halt e w') : w.drawn ≤ w'.drawn := by
  have := run_le P s w
  rw [h] at this
  exact this
theorem runT_any {α : Type} {P : Program} {s : Sem α} {w : World} {es es' : Array Event} {r : Result α} (h : s.runT P w es = (r, es')) : w.drawn ≤ (wdR r).drawn := by
  have := runT_run P s w es
  rw [h] at this
  exact this

/-! ### a goroutine's step -/
def upG (d : Nat) : GStep → Prop
  | .go _ w _ => d ≤ w.drawn
  | .comm _ _ _ _ w _ => d ≤ w.drawn
  | .spawn _ _ w _ => d ≤ w.drawn
  | .count _ w _ => d ≤ w.drawn
  | .timer _ _ w _ => d ≤ w.drawn
  | .alone _ _ w _ => d ≤ w.drawn
  | .newcoro _ _ _ w _ => d ≤ w.drawn
  | .coroswitch _ _ _ w _ => d ≤ w.drawn
  | .collect _ w _ => d ≤ w.drawn
  | .watch _ w _ => d ≤ w.drawn
  | .ended _ _ _ => True
theorem up_after {d : Nat} {es : Array Event} {g : GStep} (h : upG d g) : upG d (g.after es) := by cases g <;> exact h
theorem up_less {d d' : Nat} {g : GStep} (h : upG d' g) (hd : d ≤ d') : upG d g := by
  cases g
  all_goals first
    | exact Nat.le_trans hd h
    | exact trivial
theorem up_ite {d : Nat} {c : Prop} [Decidable c] {a b : GStep} (ha : c → upG d a) (hb : ¬ c → upG d b) : upG d (if c then a else b) := by
  by_cases h : c
  · rw [if_pos h]; exact ha h
  · rw [if_neg h]; exact hb h
theorem doReturn_up {P : Program} {main : Bool} {fr : Frame} {cs : List Frame} {dy : Option Dying} {v : Value} {w : World} : upG w.drawn (doReturn P main fr cs dy v w) := by
  unfold doReturn
  repeat' split
  all_goals first
    | exact Nat.le_refl _
    | exact trivial
theorem dieOf_up {fr : Frame} {a : List ByteArray} {m : String} {b : Bool} {w : World} : upG w.drawn (dieOf fr a m b w) := Nat.le_refl _
theorem endThrow_up {fr : Frame} {m : String} {w : World} : upG w.drawn (endThrow fr m w) := Nat.le_refl _
theorem endPrinting_up {P : Program} {fr : Frame} {v : Value} {w : World} : upG w.drawn (endPrinting P fr v w) := by
  unfold endPrinting
  simp only
  split
  · exact endThrow_up
  · exact trivial
theorem endFatal_up {P : Program} {fr : Frame} {cs : List Frame} {dy : Option Dying} {m : String} {w : World} : upG w.drawn (endFatal P fr cs dy m w) := by
  unfold endFatal
  simp only
  split
  · rename_i h
    exact up_less dieOf_up (run_ok h)
  · exact trivial
  · exact trivial
theorem endWith_up {w : World} {fd : Nat} {t : ByteArray} {o : Outcome} {d : Nat} : upG d (endWith w fd t o) := by
  unfold endWith
  simp only
  repeat' split
  all_goals exact trivial
theorem callDeferred_up {P : Program} {fr : Frame} {cs : List Frame} {dy : Option Dying} {d : Deferred} {w : World} : upG w.drawn (callDeferred P fr cs dy d w) := by
  unfold callDeferred
  refine up_ite (fun _ => trivial) (fun _ => ?_)
  rcases hX : Sem.runT P (invoke d.target d.args) w #[] with ⟨r, es⟩
  have h := runT_any hX
  clear hX
  simp only
  refine up_after ?_
  split
  all_goals first
    | exact h
    | exact trivial
    | exact up_less endFatal_up h
    | exact up_less endThrow_up h
    | (split <;> exact h)
theorem unwind_up {P : Program} {main : Bool} {fr : Frame} {cs : List Frame} {dy : Option Dying} {w : World} : upG w.drawn (unwind P main fr cs dy w) := by
  unfold unwind
  split
  · rename_i block _ _ _
    rcases hX : Sem.runT P (Instr.takeDeferred block) w #[] with ⟨r, es⟩
    have h := runT_any hX
    simp only
    refine up_after ?_
    cases r with
    | ok a w' => exact h
    | halt e w' => exact trivial
  · exact callDeferred_up
  · split
    · exact trivial
    · refine up_ite (fun _ => trivial) (fun _ => ?_)
      split
      · exact Nat.le_refl _
      · split
        · refine up_ite (fun _ => Nat.le_refl _) (fun _ => ?_)
          split
          · rename_i h
            exact run_ok h
          · exact trivial
          · exact trivial
        · split
          · exact endPrinting_up
          · exact trivial
    · split
      · exact doReturn_up
      · rename_i fn _
        rcases hX : Sem.runT P (results fn fr.tmps) w #[] with ⟨r, es⟩
        have h := runT_any hX
        simp only
        refine up_after ?_
        cases r with
        | ok a w' => exact up_less doReturn_up h
        | halt e w' => cases e <;> exact trivial
theorem writeOn_up {P : Program} {fr : Frame} {d : Dying} {f : Fatal} {w : World} : upG w.drawn (writeOn P fr d f w) := by
  unfold writeOn
  simp only
  split
  · exact trivial
  · split
    · rename_i h
      exact runT_any h
    · rename_i h
      exact runT_any h
    · exact trivial
    · exact trivial
theorem die_up {P : Program} {fr : Frame} {d : Dying} {w : World} : upG w.drawn (die P fr d w) := by
  unfold die
  split
  · exact writeOn_up
  · split
    · refine up_ite (fun _ => Nat.le_refl _) (fun _ => endWith_up)
    · simp only
      split
      · exact Nat.le_refl _
      · split
        · rename_i h
          exact run_ok h
        · exact trivial
      · rename_i t recv name _
        rcases hX : Sem.runT P (invoke (.fn (.method name) #[]) #[.iface t recv]) w #[] with ⟨r, es⟩
        have h := runT_any hX
        simp only
        refine up_after ?_
        split
        · exact h
        · exact h
        · exact trivial
        · exact up_less endPrinting_up h
        · exact trivial
      · exact trivial
theorem early_up {P : Program} {fr : Frame} {cs : List Frame} {dy : Option Dying} {g : Nat} {w : World} : upG w.drawn (early P fr cs dy g w) := by
  unfold early
  simp only
  repeat' first
    | exact Nat.le_refl _
    | exact trivial
    | exact (run_ok ‹Sem.run P (choose (Question.early g)) w = Result.ok _ _› : w.drawn ≤ _)
    | split

/-! ### a step of the machine -/
theorem apply_up {P : Program} {li : Bool} {fr : Frame} {cs : List Frame} {dy : Option Dying} {s : Sem Next} {w : World} : upG w.drawn (stepG.apply P li fr cs dy s w) := by
  unfold stepG.apply
  simp only
  rcases hX : (if li then s.runT P w #[] else (s.run P w, #[])) with ⟨r, es⟩
  have h : w.drawn ≤ (wdR r).drawn := by
    cases li with
    | true => exact runT_any (by simpa using hX)
    | false =>
      have : r = s.run P w := by simpa using (congrArg Prod.fst hX).symm
      rw [this]
      exact run_le P s w
  clear hX
  simp only
  refine up_after ?_
  split
  all_goals first
    | exact h
    | exact trivial
    | exact up_less endFatal_up h
    | exact up_less endThrow_up h
    | exact up_less early_up h
    | (refine up_ite (fun _ => up_less endThrow_up h) (fun _ => h))
    | ((repeat' split) <;> exact h)
theorem oper_up {P : Program} {li : Bool} {fr : Frame} {cs : List Frame} {dy : Option Dying} {w : World} : upG w.drawn (stepG.oper P li fr cs dy w) := by
  unfold stepG.oper
  repeat' split
  all_goals first
    | exact trivial
    | exact apply_up
theorem fst_ok {α : Type} {P : Program} {s : Sem α} {w w' : World} {es : Array Event} {a : α} (h : (s.runT P w es).1 = .ok a w') : w.drawn ≤ w'.drawn := by
  have := runT_run P s w es
  rw [h] at this
  exact this
theorem fst_halt {α : Type} {P : Program} {s : Sem α} {w w' : World} {es : Array Event} {e : Halt} (h : (s.runT P w es).1 = .halt e w') : w.drawn ≤ w'.drawn := by
  have := runT_run P s w es
  rw [h] at this
  exact this
theorem up_elim {α : Type} {d : Nat} {o : Option α} {a : GStep} {f : α → GStep} (ha : upG d a) (hf : ∀ x, upG d (f x)) : upG d (o.elim a f) := by
  cases o
  · exact ha
  · exact hf _
theorem exec_up {P : Program} {main : Bool} {li : Bool} {fr : Frame} {cs : List Frame} {dy : Option Dying} {w : World} : upG w.drawn (stepG.exec P main li fr cs dy w) := by
  unfold stepG.exec
  simp only
  split
  all_goals first
    | exact Nat.le_refl _
    | exact trivial
    | exact apply_up
    | exact oper_up
    | skip
  all_goals
    repeat' first
      | exact Nat.le_refl _
      | exact trivial
      | exact apply_up
      | exact oper_up
      | exact up_less doReturn_up (fst_ok (by assumption))
      | exact up_less apply_up (fst_ok (by assumption))
      | exact fst_ok (by assumption)
      | exact fst_halt (by assumption)
      | exact run_ok (by assumption)
      | refine up_elim ?_ (fun _ => Nat.le_refl _)
      | refine up_elim trivial (fun _ => apply_up)
      | refine up_after ?_
      | split
theorem stepG_up {P : Program} {main : Bool} {g : Goroutine} {li : Bool} {w : World} : upG w.drawn (stepG P main g w li) := by
  unfold stepG
  simp only
  split
  · exact die_up
  · exact exec_up
  · exact unwind_up

/-! ### the machine -/
def upS (d : Nat) : Stepped → Prop
  | .next m => d ≤ m.world.drawn
  | .ended _ _ => True
theorem waitingAt_same {rest : Rest} {cs : Array CommCase} {w w' : World} (h : waitingAt rest cs w = some w') : w.drawn ≤ w'.drawn := by
  unfold waitingAt at h
  repeat' split at h
  all_goals first
    | (cases h; exact Nat.le_refl _)
    | (cases h; done)
theorem communicate_up {P : Program} {rest : Rest} {gs : Array Goroutine} {i : Nat} {g : Goroutine} {cs : Array CommCase} {b : Bool} {sh : CommShape} {w : World} : upS w.drawn (communicate P rest gs i g cs b sh w).1 := by
  unfold communicate
  simp only
  repeat' first
    | exact Nat.le_refl _
    | exact trivial
    | exact waitingAt_same (by assumption)
    | exact run_ok (by assumption)
    | split
  all_goals (simp only [upS])
  all_goals first
    | exact run_ok (by assumption)
    | exact Nat.le_trans (run_ok (by assumption)) (run_halt (by assumption))
    | exact Nat.le_trans (run_ok (by assumption)) (run_ok (by assumption))
theorem look_up {P : Program} {rest : Rest} {gs : Array Goroutine} {w : World} : upS w.drawn (look P gs rest w) := by
  unfold look
  simp only
  repeat' first
    | exact Nat.le_refl _
    | exact trivial
    | exact run_ok (by assumption)
    | split
  all_goals (simp only [upS])
  all_goals exact run_ok (by assumption)
theorem serve_up {P : Program} {m : Machine} {k : Nat} : upS m.world.drawn (serve P m k) := by
  unfold serve
  simp only
  repeat' first
    | exact Nat.le_refl _
    | exact trivial
    | split
theorem drain_same (w : World) (c : Nat) : (drain w c).2.drawn = w.drawn := by
  unfold drain
  split <;> rfl
theorem retime_same (m : Machine) (k : Nat) (t : Timer) (a b : Nat) : (retime m k t a b).2.world.drawn = m.world.drawn := by
  unfold retime
  simp only
  split
  · exact drain_same _ _
  · rfl
theorem named_up {m : Machine} {var : Addr} {f : Nat → Timer → Value × Machine} {v : Value} {m' : Machine} {d : Nat} (hf : ∀ k t, (f k t).2.world.drawn = d) (h : timerOp.named m var f = .ok (v, m')) : m'.world.drawn = d := by
  unfold timerOp.named at h
  split at h
  · rename_i k _
    have h2 := hf k (m.rest.timers.getD k default)
    injection h with h
    rw [h] at h2
    exact h2
  · cases h
theorem timerOp_same {m m' : Machine} {op : TimerOp} {v : Value} (h : timerOp m op = .ok (v, m')) : m'.world.drawn = m.world.drawn := by
  unfold timerOp at h
  split at h
  · repeat' split at h
    all_goals first
      | (cases h; rfl)
      | (cases h; done)
  · exact named_up (fun k t => retime_same _ _ _ _ _) h
  · split at h
    · rename_i m2 h2
      have : m2.world.drawn = m.world.drawn := by
        unfold timerOp.opened at h2
        repeat' split at h2
        all_goals first
          | (cases h2; rfl)
          | (cases h2; done)
      rw [← this]
      exact named_up (fun k t => retime_same _ _ _ _ _) h
    · cases h
  · cases h; rfl
theorem upS_less {d d' : Nat} {s : Stepped} (h : upS d' s) (hd : d ≤ d') : upS d s := by
  cases s
  · exact Nat.le_trans hd h
  · exact trivial
theorem runT_up {P : Program} {m : Machine} {i : Nat} {li : Bool} : upS m.world.drawn (Go.runT P m i li).1 := by
  unfold Go.runT
  rcases hs : m.gs.swapAt! i { (default : Goroutine) with status := .finished } with ⟨g, gs⟩
  have h := stepG_up (P := P) (main := i == 0) (g := g) (li := li) (w := m.world)
  simp only
  generalize stepG P (i == 0) g m.world li = s at *
  split
  all_goals (simp only [upG] at h)
  all_goals first
    | exact h
    | exact trivial
    | exact upS_less communicate_up h
    | exact upS_less look_up h
    | (split <;> exact h)
    | (split <;> first | exact h | exact trivial)
    | skip
  · split
    · rename_i hq
      exact Nat.le_trans h (Nat.le_of_eq (timerOp_same hq).symm)
    · split
      · rename_i hq
        cases hq
        exact h
      · exact trivial
    · exact trivial
    · exact trivial
def upM (d : Nat) : Move → Prop
  | .goroutine m _ => d ≤ m.world.drawn
  | .machine s _ => upS d s
theorem adv_run {α : Type} {P : Program} {s : Sem α} {m : Machine} {t : Nat} {a : α} {w' : World} (h : s.run P (m.advanceTo t).world = .ok a w') : m.world.drawn ≤ w'.drawn := by
  have := run_ok h
  exact this
theorem askOn_up {P : Program} {m : Machine} : upM m.world.drawn (askOn P m) := by
  unfold askOn
  simp only
  split
  · exact trivial
  · rename_i k w1 h1
    have h1' := run_ok h1
    clear h1
    split
    · exact upS_less serve_up h1'
    · split
      · split
        · exact h1'
        · split
          · exact h1'
          · split <;> exact trivial
      · split
        · repeat' first
            | exact trivial
            | split
          all_goals (simp only [upM])
          all_goals first
            | exact Nat.le_trans h1' (run_ok (by assumption))
            | exact Nat.le_trans h1' (Nat.le_trans (run_ok (by assumption)) (run_ok (by assumption)))
        · split
          · exact trivial
          · rename_i h2
            have h2' := Nat.le_trans h1' (run_ok h2)
            clear h2
            repeat' first
              | exact trivial
              | split
            all_goals (simp only [upM])
            all_goals first
              | exact Nat.le_trans h2' (run_ok (by assumption))
              | exact Nat.le_trans h2' (Nat.le_trans (run_ok (by assumption)) (run_ok (by assumption)))
          · rename_i h2
            have h2' := Nat.le_trans h1' (run_ok h2)
            exact h2'
          · rename_i h2
            have h2' := Nat.le_trans h1' (run_ok h2)
            clear h2
            repeat' first
              | exact trivial
              | split
            all_goals (simp only [upM])
            all_goals first
              | (have h3 := adv_run ‹Sem.run P (choose (Question.sched _)) _ = Result.ok _ _›; exact Nat.le_trans h2' h3)
              | (have h3 := adv_run ‹Sem.run P (choose (Question.sched _)) _ = Result.ok _ _›; exact Nat.le_trans h2' (Nat.le_trans h3 (run_ok (by assumption))))
theorem upM_less {d d' : Nat} {s : Move} (h : upM d' s) (hd : d ≤ d') : upM d s := by
  cases s
  · exact Nat.le_trans hd h
  · exact upS_less h hd
theorem ask_up {P : Program} {m : Machine} : upM m.world.drawn (ask P m) := by
  unfold ask
  split
  · split
    · exact trivial
    · rename_i h1
      have h2 := upS_less (look_up (P := P) (rest := m.rest) (gs := m.gs)) (run_ok h1)
      split
      · rename_i h3
        rw [h3] at h2
        exact upM_less askOn_up h2
      · exact h2
    · rename_i h1
      exact upM_less askOn_up (run_ok h1)
  · exact askOn_up
theorem move_up {P : Program} {m : Machine} : upM m.world.drawn (move P m) := by
  unfold move
  split
  · split
    · exact Nat.le_refl _
    · exact trivial
  · split
    · split
      · exact Nat.le_refl _
      · exact ask_up (m := { m with rest := _ })
    · exact ask_up
theorem step_up {P : Program} {m : Machine} : upS m.world.drawn (step P m) := by
  unfold step stepT
  have h := move_up (P := P) (m := m)
  split
  · rename_i hq
    rw [hq] at h
    exact upS_less runT_up h
  · rename_i hq
    rw [hq] at h
    exact h
theorem runN_up {P : Program} : ∀ (n : Nat) (m : Machine), upS m.world.drawn (runN P n m)
  | 0, m => Nat.le_refl _
  | n + 1, m => by
    have h := step_up (P := P) (m := m)
    unfold runN
    split
    · rename_i hq
      rw [hq] at h
      exact upS_less (runN_up n _) h
    · exact h
theorem steps_le {P : Program} {m m' : Machine} (h : Steps P m m') : m.world.drawn ≤ m'.world.drawn := by
  obtain ⟨n, hn⟩ := h
  have := runN_up (P := P) n m
  rw [hn] at this
  exact this

/-- a call that returns has drawn no less than its world had -/
theorem Calls.drawn {P : Program} {f : FuncId} {args : Array Value} {w : World} {v : Value} {R : World → Prop} (h : Calls P f args w fun e w' => e = .returned v ∧ R w') :
    Calls P f args w fun e w' => e = .returned v ∧ R w' ∧ w.drawn ≤ w'.drawn := fun cs => by
  obtain ⟨e, w', fr, ⟨rfl, hR⟩, hc, h1, h2⟩ := h cs
  exact ⟨_, w', fr, ⟨rfl, hR, steps_le (m := lone (Frame.enter P f args .normal) cs w) (m' := lone fr cs w') hc⟩, hc, h1, h2⟩
end Go.Proofs.YtminjjdnmpaaoaaGreatDoor
namespace Go.Proofs
open Go.Shelf
def Tryz.sortDir_ren : Go.Shelf.Ren := ⟨fun | 6 => 24 | 15 => 52 | 14 => 51 | 28 => 90 | 29 => 91 | 20 => 82 | 21 => 83 | 22 => 84 | 23 => 85 | 24 => 86 | 25 => 87 | 26 => 88 | 27 => 89 | 46 => 132 | 47 => 133 | 48 => 134 | 49 => 135 | 50 => 136 | 57 => 159 | n => n, fun | 22 => 31 | 24 => 54 | 25 => 82 | 3 => 3 | 39 => 122 | 0 => 0 | 53 => 158 | 55 => 160 | 4 => 4 | 46 => 151 | 45 => 150 | 50 => 155 | 5 => 5 | 9 => 9 | 66 => 193 | 70 => 197 | 76 => 222 | 77 => 223 | n => n, fun | n => n⟩
theorem Tryz.sortDir : Go.Proofs.SlLaysF0.n6 Tryz.prog Tryz.sortDir_ren := {
  mixed := by kernel_rfl
  f6 := ⟨Tryz.f24.name, by decide, Tryz.func24.trans (congrArg some (by kernel_rfl))⟩
  f14 := ⟨Tryz.f51.name, by decide, Tryz.func51.trans (congrArg some (by kernel_rfl))⟩
  f15 := Tryz.func52.trans (congrArg some (by kernel_rfl))
  f20 := ⟨Tryz.f82.name, by decide, Tryz.func82.trans (congrArg some (by kernel_rfl))⟩
  f21 := ⟨Tryz.f83.name, by decide, Tryz.func83.trans (congrArg some (by kernel_rfl))⟩
  f22 := ⟨Tryz.f84.name, by decide, Tryz.func84.trans (congrArg some (by kernel_rfl))⟩
  f23 := ⟨Tryz.f85.name, by decide, Tryz.func85.trans (congrArg some (by kernel_rfl))⟩
  f24 := ⟨Tryz.f86.name, by decide, Tryz.func86.trans (congrArg some (by kernel_rfl))⟩
  f25 := ⟨Tryz.f87.name, by decide, Tryz.func87.trans (congrArg some (by kernel_rfl))⟩
  f26 := ⟨Tryz.f88.name, by decide, Tryz.func88.trans (congrArg some (by kernel_rfl))⟩
  f27 := ⟨Tryz.f89.name, by decide, Tryz.func89.trans (congrArg some (by kernel_rfl))⟩
  f28 := Tryz.func90.trans (congrArg some (by kernel_rfl))
  f29 := Tryz.func91.trans (congrArg some (by kernel_rfl))
  f46 := ⟨Tryz.f132.name, by decide, Tryz.func132.trans (congrArg some (by kernel_rfl))⟩
  f47 := Tryz.func133.trans (congrArg some (by kernel_rfl))
  f48 := Tryz.func134.trans (congrArg some (by kernel_rfl))
  f49 := ⟨Tryz.f135.name, by decide, Tryz.func135.trans (congrArg some (by kernel_rfl))⟩
  f50 := ⟨Tryz.f136.name, by decide, Tryz.func136.trans (congrArg some (by kernel_rfl))⟩
  f57 := ⟨Tryz.f159.name, by decide, Tryz.func159.trans (congrArg some (by kernel_rfl))⟩
  t0 := Tryz.underlying0
  a0 := Tryz.isAgg0
  z0 := Tryz.sizeOf0
  v0 := Tryz.zeroValue0
  t3 := Tryz.underlying3
  a3 := Tryz.isAgg3
  z3 := Tryz.sizeOf3
  v3 := Tryz.zeroValue3
  t4 := Tryz.underlying4
  a4 := Tryz.isAgg4
  z4 := Tryz.sizeOf4
  v4 := Tryz.zeroValue4
  t5 := Tryz.underlying5
  a5 := Tryz.isAgg5
  z5 := Tryz.sizeOf5
  v5 := Tryz.zeroValue5
  t9 := Tryz.underlying9
  a9 := Tryz.isAgg9
  z9 := Tryz.sizeOf9
  v9 := Tryz.zeroValue9
  t22 := Tryz.underlying31
  a22 := Tryz.isAgg31
  z22 := Tryz.sizeOf31
  v22 := Tryz.zeroValue31
  t25 := Tryz.underlying82
  a25 := Tryz.isAgg82
  z25 := Tryz.sizeOf82
  v25 := Tryz.zeroValue82
  t39 := Tryz.underlying122
  a39 := Tryz.isAgg122
  z39 := Tryz.sizeOf122
  v39 := Tryz.zeroValue122
  t45 := Tryz.underlying150
  a45 := Tryz.isAgg150
  z45 := Tryz.sizeOf150
  v45 := Tryz.zeroValue150
  t46 := Tryz.underlying151
  a46 := Tryz.isAgg151
  z46 := Tryz.sizeOf151
  v46 := Tryz.zeroValue151
  t50 := Tryz.underlying155
  a50 := Tryz.isAgg155
  z50 := Tryz.sizeOf155
  v50 := Tryz.zeroValue155
  t53 := Tryz.underlying158
  a53 := Tryz.isAgg158
  z53 := Tryz.sizeOf158
  v53 := Tryz.zeroValue158
  t55 := Tryz.underlying160
  a55 := Tryz.isAgg160
  z55 := Tryz.sizeOf160
  v55 := Tryz.zeroValue160
  t66 := Tryz.underlying193
  a66 := Tryz.isAgg193
  z66 := Tryz.sizeOf193
  v66 := Tryz.zeroValue193
  t70 := Tryz.underlying197
  a70 := Tryz.isAgg197
  z70 := Tryz.sizeOf197
  v70 := Tryz.zeroValue197
  t76 := Tryz.underlying222
  a76 := Tryz.isAgg222
  z76 := Tryz.sizeOf222
  v76 := Tryz.zeroValue222
  t77 := Tryz.underlying223
  a77 := Tryz.isAgg223
  z77 := Tryz.sizeOf223
  v77 := Tryz.zeroValue223 }
end Go.Proofs
