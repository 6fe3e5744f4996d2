/-
  A range over an iterator that keeps its place in a box of its own, and what turns behind it.
-/
import Derived.RangeFuncNested
import Derived.RangeFuncBound
import Derived.RangeFuncCalls
import Derived.RangeFuncLeaves
import Derived.OwnWalkIn
import Derived.Test.YtldjldkejjeamaaGreatDoorQuietB
set_option autoImplicit false
set_option relaxedAutoImplicit false
set_option linter.unusedVariables false
set_option linter.unusedSimpArgs false
namespace Go.Proofs.YtldjldkejjeamaaGreatDoor
open Go.RowKit

/-- what has turned of what lay in W lies in X -/
structure Turn (X : Nat → Prop) (W W' : World) : Prop where
  os : W'.os = W.os
  tape : W'.tape = W.tape
  output : W'.output = W.output
  size : W.heap.size ≤ W'.heap.size
  block : ∀ k, k < W.heap.size → ¬ X k → W'.heap[k]? = W.heap[k]?
theorem Turn.refl (X : Nat → Prop) (W : World) : Turn X W W := ⟨rfl, rfl, rfl, Nat.le_refl _, fun _ _ _ => rfl⟩
theorem Turn.trans {X : Nat → Prop} {A B C : World} (h : Turn X A B) (k : Turn X B C) : Turn X A C :=
  ⟨k.os.trans h.os, k.tape.trans h.tape, k.output.trans h.output, Nat.le_trans h.size k.size, fun i hi hx => (k.block i (Nat.lt_of_lt_of_le hi h.size) hx).trans (h.block i hi hx)⟩
theorem Turn.trans2 {X Y : Nat → Prop} {A B C : World} (h : Turn X A B) (k : Turn Y B C) (hy : ∀ j, j < A.heap.size → Y j → X j) : Turn X A C :=
  ⟨k.os.trans h.os, k.tape.trans h.tape, k.output.trans h.output, Nat.le_trans h.size k.size, fun i hi hx => (k.block i (Nat.lt_of_lt_of_le hi h.size) fun e => hx (hy i hi e)).trans (h.block i hi hx)⟩
theorem Turn.mono {X Y : Nat → Prop} {A B : World} (h : Turn X A B) (hxy : ∀ k, k < A.heap.size → X k → Y k) : Turn Y A B := ⟨h.os, h.tape, h.output, h.size, fun i hi hy => h.block i hi fun hx => hy (hxy i hi hx)⟩
theorem Turn.of_below {X : Nat → Prop} {A B : World} (h : Below A.heap.size A B) : Turn X A B := ⟨h.os, h.tape, h.output, h.size, fun i hi _ => h.block i hi⟩
theorem Turn.below {X : Nat → Prop} {A B : World} {n : Nat} (h : Turn X A B) (hn : n ≤ A.heap.size) (hx : ∀ k, X k → n ≤ k) : Below n A B := ⟨h.os, h.tape, h.output, h.size, fun i hi => h.block i (by omega) fun hxi => by have := hx i hxi; omega⟩
theorem Turn.grown {X : Nat → Prop} {A B : World} {r : Option Nat} (h : A.grownBy B r) (hr : ∀ k, r = some k → X k) : Turn X A B := ⟨h.os, h.tape, h.output, h.size, fun i hi hx => h.block i hi fun e => hx (hr i e.symm)⟩
theorem Turn.set {X : Nat → Prop} (W : World) {b : Nat} (hb : X b) (v : Value) : Turn X W (W.setCell ⟨b, 0, none⟩ v) := Turn.grown (grownBy_setCell' W b v) fun k e => by cases e; exact hb
theorem Turn.alloc {X : Nat → Prop} (W : World) (o : Obj) : Turn X W (W.alloc o) := Turn.grown (r := none) (World.grownBy_alloc W o none) fun k e => by cases e
theorem Turn.put {X : Nat → Prop} (W : World) {b : Nat} (hb : X b) (o : Obj) : Turn X W (W.putObj b o) := Turn.grown (grownBy_putObj' W b o) fun k e => by cases e; exact hb
theorem Turn.box {X : Nat → Prop} {A B : World} (h : Turn X A B) {b : Nat} {t : TypeId} {v : Value} (hb : Boxed A b t v) (hx : ¬ X b) : Boxed B b t v := (h.block b hb.lt hx).trans hb
theorem Turn.at {X : Nat → Prop} {A B : World} (h : Turn X A B) {b : Nat} {o : Obj} (hb : A.heap[b]? = some o) (hx : ¬ X b) : B.heap[b]? = some o := (h.block b (Array.getElem?_eq_some_iff.1 hb).1 hx).trans hb

theorem ownsRow_turn {X : Nat → Prop} {A B : World} {base : Nat} {e : TypeId} {size : Nat} {v : Value} {k : Nat} {xs : List Value} (h : A.ownsRow base e size v k xs) (t : Turn X A B) (hv : ∀ g, v.ownBlock = some g → ¬ X g) : B.ownsRow base e size v k xs := by
  obtain ⟨h0, h1⟩ := h
  refine ⟨h0, ?_⟩
  rcases h1 with h1 | ⟨g, cap, cur, rfl, h2, h3, h4⟩
  · exact .inl h1
  · exact .inr ⟨g, cap, cur, rfl, h2, t.at h3 (hv g rfl), h4⟩
theorem Own.turn {α : Type} {r : Rp α} {X : Nat → Prop} {A B : World} {base : Nat} {e : TypeId} {v : Value} {l : List α} {S : Nat → Prop} (h : Own r A base e v l S) (t : Turn X A B) (hv : ∀ g, v.ownBlock = some g → ¬ X g) (hS : ∀ b, S b → ¬ X b) : Own r B base e v l S := by
  obtain ⟨h0, xs, h1, h2⟩ := h
  exact ⟨fun b hb => ⟨Nat.lt_of_lt_of_le (h0 b hb).1 t.size, (h0 b hb).2⟩, xs, ownsRow_turn h1 t hv, h2.mono fun b hb hl => ⟨hb, t.block b hl (hS b hb)⟩⟩
theorem Own.lower {α : Type} {r : Rp α} {A : World} {base base' : Nat} {e : TypeId} {v : Value} {l : List α} {S : Nat → Prop} (h : Own r A base e v l S) (hb : base' ≤ base) : Own r A base' e v l S := by
  obtain ⟨h0, xs, ⟨q0, q1⟩, h2⟩ := h
  refine ⟨h0, xs, ⟨q0, ?_⟩, h2⟩
  rcases q1 with q1 | ⟨g, cap, cur, rfl, h2, h3, h4⟩
  · exact .inl q1
  · exact .inr ⟨g, cap, cur, rfl, by omega, h3, h4⟩
/-- an own row is made of cells -/
theorem Own.cells {α : Type} {r : Rp α} {A : World} {base : Nat} {e : TypeId} {v : Value} {l : List α} {S : Nat → Prop} (h : Own r A base e v l S) {g : Nat} (hg : v.ownBlock = some g) : base ≤ g ∧ ¬ ∃ o, A.heap[g]? = some o ∧ o.isCells = false := by
  obtain ⟨h0, xs, h1, h2⟩ := h
  rcases h1.2 with ⟨rfl, _⟩ | ⟨g', cap, cur, rfl, h2, h3, h4⟩
  · simp [Value.ownBlock] at hg
  · obtain rfl : g' = g := by simpa [Value.ownBlock] using hg
    refine ⟨h2, ?_⟩
    rintro ⟨o, ho, hc⟩
    rw [h3] at ho; cases ho; cases hc

variable {F : Fence} {n : Nat} {P : Program}

/-- an iterator over some values; T: the blocks that it turns (the box of its place); K: those that it reads -/
def Parts {α : Type} (enc : α → Value) (F : Fence) (n : Nat) (P : Program) (g : Nat) (lb : Array Value) (T K : Nat → Prop) (ps : List α) (w : World) : Prop :=
  ∀ (l : Nat) (J : Nat → World → Prop) (Jx : World → Prop) (W : World), (∀ j, K j → j < l ∧ W.heap[j]? = w.heap[j]? ∧ j < W.heap.size) →
    (∀ k A B, J k A → Turn T A B → J k B) → (∀ A B, Jx A → Turn T A B → Jx B) →
    (∀ k (hk : k < ps.length) A, J k A → YieldAt F (n - 1) P l #[enc ps[k]] A fun e B =>
      (e = .returned (.bool true) ∧ J (k + 1) B ∧ ∀ j, K j → B.heap[j]? = A.heap[j]?) ∨ (e = .returned (.bool false) ∧ Jx B)) →
    J 0 W →
    CallsIn F n P g (#[.func (.yield l) #[] #[]] ++ lb) W fun e B => (∃ v, e = .returned v) ∧ (J ps.length B ∨ Jx B)

/-- what a round may turn: X; and what is made of cells and new -/
def Free (X : Nat → Prop) (lo : Nat) (A : World) (j : Nat) : Prop := X j ∨ (lo ≤ j ∧ ∃ o, A.heap[j]? = some o ∧ o.isCells = true)
theorem Free.no {X : Nat → Prop} {lo : Nat} {A : World} {j : Nat} {o : Obj} (hx : ¬ X j) (h : A.heap[j]? = some o) (hc : o.isCells = false) : ¬ Free X lo A j := by
  rintro (e | ⟨_, o', ho, hc'⟩)
  · exact hx e
  · rw [h] at ho; cases ho; rw [hc] at hc'; cases hc'
/-- how a round's body is left: it goes on, or it returns -/
def Left (X : Nat → Prop) (lo : Nat) (I : World → Prop) (Ix : World → Prop) (A : World) : Exit → Act → World → Prop
  | .normal, _, B => Turn (Free X lo A) A B ∧ I B
  | .ret, _, B => Turn (Free X lo A) A B ∧ Ix B
  | _, _, _ => False

/-- one round: the assignment of the loop's variable, the body -/
def Rounds {α : Type} (enc : α → Value) (F : Fence) (m : Nat) (P : Program) (X : Nat → Prop) (ts : Array Value) (pt : Array Tmp) (assign body : Code) (ps : List α) (lo : Nat) (I : Nat → World → Prop) (Ix : World → Prop) : Prop :=
  ∀ (l : Nat) (r : Loop) (k : Nat) (hk : k < ps.length) (W : World), lo ≤ l → W.heap[l]? = some (.loop r) → I k W →
    assign.wpIn (F.inRound l) m P (Exit.then (fun a A => Turn (Free X lo W) W A ∧
      ∀ A', Turn (· = l) A A' → (∃ r, A'.heap[l]? = some (.loop r)) → body.wpIn (F.inRound l) m P (Left X lo (I (k + 1)) Ix A') a A') (fun _ _ _ => False))
      { tmps := (pt.zip #[enc ps[k]]).foldl (fun t (p, v) => t.setIfInBounds p v) ts, defers := [] } W

theorem parts_core {α : Type} {enc : α → Value} {X : Nat → Prop} {gf : Nat} {lb : Array Value} {T K : Nat → Prop} {ps : List α} {w0 : World} (hseq : Parts enc F n P gf lb T K ps w0) (hTK : ∀ j, T j → K j)
    {ts : Array Value} {pt : Array Tmp} {assign body : Code} (hpt : pt.size = 1) {fn : FuncId} (hfn : F.fn fn) (l D lo : Nat) (hlo : lo ≤ l) (hXl : ¬ X l) (hXB : ∀ j, K j → ¬ X j ∧ j < lo)
    (W1 : World) (hB : ∀ j, K j → j < l ∧ W1.heap[j]? = w0.heap[j]? ∧ j < W1.heap.size)
    (rec : LoopState → Option Code → Loop) (hrec : rec = fun st pe => { state := st, pending := pe, fn, tmps := ts, params := pt, assign, body, defers := D })
    (hL : W1.heap[l]? = some (.loop (rec .ready none))) (I : Nat → World → Prop) (Ix : World → Prop)
    (hI : ∀ k A B r, I k A → A.heap[l]? = some (.loop r) → Turn (fun j => T j ∨ j = l) A B → I k B) (hIx : ∀ A B r, Ix A → A.heap[l]? = some (.loop r) → Turn (fun j => T j ∨ j = l) A B → Ix B) (h0 : I 0 W1)
    (hround : Rounds enc F (n - 1) P X ts pt assign body ps lo I Ix) :
    CallsIn F n P gf (#[.func (.yield l) #[] #[]] ++ lb) W1 fun e B => (∃ v, e = .returned v) ∧
      ((I ps.length B ∧ B.heap[l]? = some (.loop (rec .ready none))) ∨ (Ix B ∧ B.heap[l]? = some (.loop (rec .done (some .ret))))) := by
  have hne : ∀ j, K j → l ≠ j := fun j hj e => by have := (hB j hj).1; omega
  refine hseq l (fun k A => I k A ∧ A.heap[l]? = some (.loop (rec .ready none))) (fun A => Ix A ∧ A.heap[l]? = some (.loop (rec .done (some .ret)))) W1 hB
    (fun k A B h t => ⟨hI k A B _ h.1 h.2 (t.mono fun j _ e => .inl e), t.at h.2 (fun e => hne l (hTK l e) rfl)⟩) (fun A B h t => ⟨hIx A B _ h.1 h.2 (t.mono fun j _ e => .inl e), t.at h.2 (fun e => hne l (hTK l e) rfl)⟩) ?_ ⟨h0, hL⟩
  rintro k hk W ⟨hi, hl⟩
  have hy := run_yield (P := P) (args := #[enc ps[k]]) hl (by rw [hrec]; exact hpt.symm)
  rw [hrec] at hy
  refine ⟨fn, _, assign, body, hy, roundIn_of_wpIn hfn (wpIn_mono (hround l _ k hk W hlo hl hi) ?_)⟩
  intro e a A h
  cases e with
  | normal =>
    obtain ⟨ht, hb⟩ := h
    have hlA := ht.at hl (Free.no hXl hl rfl)
    have hKF : ∀ j V, K j → ¬ Free X lo V j := fun j V hj e => e.elim (hXB j hj).1 fun e => by have := (hXB j hj).2; omega
    refine ⟨_, run_beginRound hlA (by rw [hrec]), ?_⟩
    have hl2 : (A.putObj l (.loop { rec .ready none with state := .busy })).heap[l]? = some (.loop { rec .ready none with state := .busy }) := World.putObj_heap_same (Array.getElem?_eq_some_iff.1 hlA).1
    have tp : Turn (· = l) A (A.putObj l (.loop { rec .ready none with state := .busy })) := Turn.put A (X := (· = l)) (show l = l from rfl) _
    have hBA : ∀ j, K j → (A.putObj l (.loop { rec .ready none with state := .busy })).heap[j]? = W.heap[j]? := fun j hj => by
      have hw : j < W.heap.size := by have := (Array.getElem?_eq_some_iff.1 hl).1; have := (hB j hj).1; omega
      exact (tp.block j (Nat.lt_of_lt_of_le hw ht.size) (fun e => hne j hj e.symm)).trans (ht.block j hw (hKF j _ hj))
    refine wpIn_mono (hb _ tp ⟨_, hl2⟩) ?_
    have fin : ∀ (jump : Option Code) (B : World), Turn (Free X lo (A.putObj l (.loop { rec .ready none with state := .busy }))) (A.putObj l (.loop { rec .ready none with state := .busy })) B →
        (Instr.endRound l jump).run P B = .ok (.bool jump.isNone) (B.putObj l (.loop (rec (if jump.isNone then .ready else .done) jump))) ∧
        (B.putObj l (.loop (rec (if jump.isNone then .ready else .done) jump))).heap[l]? = some (.loop (rec (if jump.isNone then .ready else .done) jump)) ∧
        B.heap[l]? = some (.loop { rec .ready none with state := .busy }) ∧ Turn (fun j => T j ∨ j = l) B (B.putObj l (.loop (rec (if jump.isNone then .ready else .done) jump))) ∧
        (∀ j, K j → (B.putObj l (.loop (rec (if jump.isNone then .ready else .done) jump))).heap[j]? = W.heap[j]?) := fun jump B hk3 => by
      have hl3 := hk3.at hl2 (Free.no hXl hl2 rfl)
      have hr := run_endRound (P := P) jump hl3
      have hlt3 := (Array.getElem?_eq_some_iff.1 hl3).1
      rw [hrec] at hr ⊢
      refine ⟨hr, World.putObj_heap_same hlt3, by rw [hrec] at hl3; exact hl3, Turn.put B (.inr rfl) _, fun j hj => ?_⟩
      rw [World.putObj_heap_other (fun e => hne j hj e.symm), ← hBA j hj]
      refine hk3.block j ?_ (hKF j _ hj)
      have := (Array.getElem?_eq_some_iff.1 hl2).1
      have := (hB j hj).1
      omega
    rintro e' a' B hp
    cases e' with
    | normal =>
      obtain ⟨hk3, hi3⟩ := hp
      obtain ⟨hr, hl4, hl3, ht4, hb4⟩ := fin none B hk3
      exact ⟨_, _, hr, .inl ⟨rfl, ⟨hI _ _ _ _ hi3 hl3 ht4, hl4⟩, hb4⟩⟩
    | ret =>
      obtain ⟨hk3, hi3⟩ := hp
      obtain ⟨hr, hl4, hl3, ht4, hb4⟩ := fin (some .ret) B hk3
      exact ⟨_, _, hr, .inr ⟨rfl, hIx _ _ _ hi3 hl3 ht4, hl4⟩⟩
    | exit id => exact hp.elim
    | goto t => exact hp.elim
    | panic ch => exact hp.elim
    | outgrown => exact hp.elim
  | exit id => exact h.elim
  | goto t => exact h.elim
  | ret => exact h.elim
  | panic ch => exact h.elim
  | outgrown => exact h.elim

/-- what the iterator turns; and whatever is no cells and new -/
def NC (T : Nat → Prop) (lo : Nat) (A : World) (j : Nat) : Prop := T j ∨ (lo ≤ j ∧ ∃ o, A.heap[j]? = some o ∧ o.isCells = false)
/-- a range over such an iterator, in a function's own frame -/
theorem range_outer {α : Type} {enc : α → Value} {X : Nat → Prop} {g : Operand} {pt : Array Tmp} {assign body : Code} {Q : Exit → Act → World → Prop} {a : Act} {w : World}
    (hro : F.round = none) (h1 : 1 ≤ n) {gf : Nat} {lb : Array Value} (hg : a.eval g = .func (.func gf) #[] lb) (hFg : F.fn gf) (eg : ∀ args w, (callFunc gf args).run P w = .ok (.enter gf args) w)
    {T K : Nat → Prop} {ps : List α} {w0 : World} (hseq : Parts enc F (n - 1) P gf lb T K ps w0) (hTK : ∀ j, T j → K j) (hpt : pt.size = 1) (hB : ∀ j, K j → w.heap[j]? = w0.heap[j]? ∧ j < w.heap.size) (hX : ∀ k, X k → k < w.heap.size) (hXB : ∀ j, K j → ¬ X j)
    (I : Nat → World → Prop) (Ix : World → Prop)
    (hI : ∀ k A B, I k A → Turn (NC T w.heap.size A) A B → I k B) (hIx : ∀ A B, Ix A → Turn (NC T w.heap.size A) A B → Ix B) (h0 : I 0 w)
    (hround : Rounds enc F (n - 1 - 1) P X a.tmps pt assign body ps w.heap.size I Ix)
    (hdone : ∀ (D : Nat) (W : World), w.heap.size ≤ D → I ps.length W → W.heap[D]? = some (.deferred (some [])) → Q .normal { a with defers := { target := .collected D, args := #[] } :: a.defers } W)
    (hstop : ∀ (D : Nat) (W : World), w.heap.size ≤ D → Ix W → W.heap[D]? = some (.deferred (some [])) → Code.ret.wpIn F n P Q { a with defers := { target := .collected D, args := #[] } :: a.defers } W) :
    (Code.rangeFunc g pt assign body).wpIn F n P Q a w := by
  refine wpIn_rangeFunc fun fn hfn => ?_
  rw [hro]
  obtain ⟨rec, hrec⟩ : ∃ rec : LoopState → Option Code → Loop, rec = fun st pe => { state := st, pending := pe, fn, tmps := a.tmps, params := pt, assign, body, defers := w.heap.size } := ⟨_, rfl⟩
  obtain ⟨V, hV⟩ : ∃ V, V = w.alloc (.deferred (some [])) := ⟨_, rfl⟩
  have tV : ∀ {Y : Nat → Prop}, Turn Y w V := by rw [hV]; exact Turn.alloc w _
  have hVs : V.heap.size = w.heap.size + 1 := by rw [hV]; simp
  have hVD : V.heap[w.heap.size]? = some (.deferred (some [])) := by rw [hV]; exact World.alloc_heap_new w _
  obtain ⟨W1, hW1⟩ : ∃ W1, W1 = V.alloc (.loop (rec .ready none)) := ⟨_, rfl⟩
  have t1 : ∀ {Y : Nat → Prop}, Turn Y V W1 := by rw [hW1]; exact Turn.alloc V _
  have hL : W1.heap[w.heap.size + 1]? = some (.loop (rec .ready none)) := by rw [hW1, ← hVs]; exact World.alloc_heap_new V _
  have hD1 : W1.heap[w.heap.size]? = some (.deferred (some [])) := (t1 (Y := fun _ => False)).at hVD (fun h => h)
  refine ⟨w.heap.size + 1, [{ target := .collected w.heap.size, args := #[] }], W1, { target := .fn (.func gf) lb, args := #[.func (.yield (w.heap.size + 1)) #[] #[]] }, W1, gf,
    #[.func (.yield (w.heap.size + 1)) #[] #[]] ++ lb, W1, ?_, ?_, ?_, ?_, fun _ => h1, ?_⟩
  · rw [hW1, hV, hrec]; exact run_enterLoop_outer _ _ _ _ _
  · simp only [resolve, hg]
    simp [go_sem]
  · intro f' hf'; simp [Target.leads] at hf'; subst hf'; exact hFg
  · simp [invoke, go_sem, eg]
  · have hnX : ∀ j, w.heap.size ≤ j → ¬ X j := fun j hj hx => by have := hX j hx; omega
    have tw : Turn (NC T w.heap.size w) w W1 := tV.trans t1
    have hTl : ∀ j, T j → j < w.heap.size := fun j hj => (hB j (hTK j hj)).2
    refine (parts_core hseq hTK hpt hfn (w.heap.size + 1) w.heap.size w.heap.size (by omega) (hnX _ (by omega)) (fun j hj => ⟨hXB j hj, (hB j hj).2⟩) W1 ?_ rec hrec hL
      (fun k A => I k A ∧ A.heap[w.heap.size]? = some (.deferred (some []))) (fun A => Ix A ∧ A.heap[w.heap.size]? = some (.deferred (some [])))
      (fun k A B r h hl t => ⟨hI k A B h.1 (t.mono fun j _ e => e.elim .inl fun e => .inr ⟨by omega, by rw [e]; exact ⟨_, hl, rfl⟩⟩), t.at h.2 (by rintro (e | e); exact absurd (hTl _ e) (by omega); omega)⟩)
      (fun A B r h hl t => ⟨hIx A B h.1 (t.mono fun j _ e => e.elim .inl fun e => .inr ⟨by omega, by rw [e]; exact ⟨_, hl, rfl⟩⟩), t.at h.2 (by rintro (e | e); exact absurd (hTl _ e) (by omega); omega)⟩)
      ⟨hI 0 _ _ h0 tw, hD1⟩ ?_).mono ?_
    · intro j hj
      obtain ⟨h1, h2⟩ := hB j hj
      refine ⟨by omega, ?_, Nat.lt_of_lt_of_le h2 tw.size⟩
      rw [← h1]
      exact (tV.trans (t1 (Y := fun _ => False))).block j h2 (fun h => h)
    · intro l r k hk W hlo hl hi
      refine wpIn_mono (hround l r k hk W hlo hl hi.1) ?_
      intro e a' A h
      cases e with
      | normal =>
        obtain ⟨ht, hb⟩ := h
        refine ⟨ht, fun A' tA hlA => wpIn_mono (hb A' tA hlA) ?_⟩
        have hDA := ht.at hi.2 (Free.no (hnX _ (Nat.le_refl _)) hi.2 rfl)
        have hlD : w.heap.size ≠ l := fun e => by rw [← e] at hl; rw [hi.2] at hl; cases hl
        have hDA' := tA.at hDA hlD
        intro e2 a2 B hp
        cases e2 with
        | normal => exact ⟨hp.1, hp.2, hp.1.at hDA' (Free.no (hnX _ (Nat.le_refl _)) hDA' rfl)⟩
        | ret => exact ⟨hp.1, hp.2, hp.1.at hDA' (Free.no (hnX _ (Nat.le_refl _)) hDA' rfl)⟩
        | exit id => exact hp.elim
        | goto t => exact hp.elim
        | panic ch => exact hp.elim
        | outgrown => exact hp.elim
      | exit id => exact h.elim
      | goto t => exact h.elim
      | ret => exact h.elim
      | panic ch => exact h.elim
      | outgrown => exact h.elim
    · rintro e W2 ⟨⟨v, rfl⟩, (⟨⟨hi, hk⟩, hl⟩ | ⟨⟨hi, hk⟩, hl⟩)⟩
      · exact ⟨none, _, by have := run_endLoop (P := P) hl (by rw [hrec]; simp); rw [hrec] at this; exact this, hdone _ _ (Nat.le_refl _) (hI _ _ _ hi (Turn.put _ (.inr ⟨by omega, _, hl, rfl⟩) _)) ((World.putObj_heap_other (by omega)).trans hk)⟩
      · exact ⟨some .ret, _, by have := run_endLoop (P := P) hl (by rw [hrec]; simp); rw [hrec] at this; exact this, hstop _ _ (Nat.le_refl _) (hIx _ _ hi (Turn.put _ (.inr ⟨by omega, _, hl, rfl⟩) _)) ((World.putObj_heap_other (by omega)).trans hk)⟩

/-- the same within a round of another such loop -/
theorem range_inner {α : Type} {enc : α → Value} {X : Nat → Prop} {g : Operand} {pt : Array Tmp} {assign body : Code} {Q : Exit → Act → World → Prop} {a : Act} {w : World} {l₀ : Nat} {r₀ : Loop}
    (hro : F.round = some l₀) (hl₀ : w.heap[l₀]? = some (.loop r₀)) (h1 : 1 ≤ n) {gf : Nat} {lb : Array Value} (hg : a.eval g = .func (.func gf) #[] lb) (hFg : F.fn gf) (eg : ∀ args w, (callFunc gf args).run P w = .ok (.enter gf args) w)
    {T K : Nat → Prop} {ps : List α} {w0 : World} (hseq : Parts enc F (n - 1) P gf lb T K ps w0) (hTK : ∀ j, T j → K j) (hpt : pt.size = 1) (hB : ∀ j, K j → w.heap[j]? = w0.heap[j]? ∧ j < w.heap.size) (hX : ∀ k, X k → k < w.heap.size) (hXB : ∀ j, K j → ¬ X j)
    (I : Nat → World → Prop) (Ix : World → Prop)
    (hI : ∀ k A B, I k A → Turn (NC T w.heap.size A) A B → I k B) (hIx : ∀ A B, Ix A → Turn (NC T w.heap.size A) A B → Ix B) (h0 : I 0 w)
    (hround : Rounds enc F (n - 1 - 1) P X a.tmps pt assign body ps w.heap.size I Ix)
    (hdone : ∀ (W : World), I ps.length W → Q .normal a W)
    (hstop : ∀ (W : World), Ix W → Code.ret.wpIn F n P Q a W) :
    (Code.rangeFunc g pt assign body).wpIn F n P Q a w := by
  refine wpIn_rangeFunc fun fn hfn => ?_
  rw [hro]
  obtain ⟨rec, hrec⟩ : ∃ rec : LoopState → Option Code → Loop, rec = fun st pe => { state := st, pending := pe, fn, tmps := a.tmps, params := pt, assign, body, defers := r₀.defers } := ⟨_, rfl⟩
  obtain ⟨W1, hW1⟩ : ∃ W1, W1 = w.alloc (.loop (rec .ready none)) := ⟨_, rfl⟩
  have t1 : ∀ {Y : Nat → Prop}, Turn Y w W1 := by rw [hW1]; exact Turn.alloc w _
  have hL : W1.heap[w.heap.size]? = some (.loop (rec .ready none)) := by rw [hW1]; exact World.alloc_heap_new w _
  refine ⟨w.heap.size, [], W1, { target := .fn (.func gf) lb, args := #[.func (.yield w.heap.size) #[] #[]] }, W1, gf,
    #[.func (.yield w.heap.size) #[] #[]] ++ lb, W1, ?_, ?_, ?_, ?_, fun _ => h1, ?_⟩
  · rw [hW1, hrec]; exact run_enterLoop_inner hl₀ _ _ _ _ _
  · simp only [resolve, hg]
    simp [go_sem]
  · intro f' hf'; simp [Target.leads] at hf'; subst hf'; exact hFg
  · simp [invoke, go_sem, eg]
  · refine (parts_core hseq hTK hpt hfn w.heap.size r₀.defers w.heap.size (Nat.le_refl _) (fun hx => by have := hX _ hx; omega) (fun j hj => ⟨hXB j hj, (hB j hj).2⟩) W1 ?_ rec hrec hL
      I Ix (fun k A B r h hl t => hI k A B h (t.mono fun j _ e => e.elim .inl fun e => .inr ⟨by omega, by rw [e]; exact ⟨_, hl, rfl⟩⟩))
      (fun A B r h hl t => hIx A B h (t.mono fun j _ e => e.elim .inl fun e => .inr ⟨by omega, by rw [e]; exact ⟨_, hl, rfl⟩⟩))
      (hI 0 _ _ h0 t1) hround).mono ?_
    · intro j hj
      obtain ⟨h1, h2⟩ := hB j hj
      refine ⟨h2, ?_, Nat.lt_of_lt_of_le h2 (t1 (Y := fun _ => False)).size⟩
      rw [← h1]
      exact (t1 (Y := fun _ => False)).block j h2 (fun h => h)
    · rintro e W2 ⟨⟨v, rfl⟩, (⟨hi, hl⟩ | ⟨hi, hl⟩)⟩
      · exact ⟨none, _, by have := run_endLoop (P := P) hl (by rw [hrec]; simp); rw [hrec] at this; exact this, hdone _ (hI _ _ _ hi (Turn.put _ (.inr ⟨by omega, _, hl, rfl⟩) _))⟩
      · exact ⟨some .ret, _, by have := run_endLoop (P := P) hl (by rw [hrec]; simp); rw [hrec] at this; exact this, hstop _ (hIx _ _ hi (Turn.put _ (.inr ⟨by omega, _, hl, rfl⟩) _))⟩

/-- an element more at the end of an own row, within a fence -/
theorem wpListIn_push0 {α : Type} {r : Rp α} {w : World} {base : Nat} {e : TypeId} {v : Value} {l : List α} {ops : Array Oper} {rest : List Oper} {o : Oper} {a : Act} {Q : Exit → Act → World → Prop} {bytes : Nat}
    (hg : o.guard = none) (s x : Operand) (t : TypeId) (ho : o.op = .call { callee := .builtin .append, args := #[s, x], argTypes := #[t, t] })
    (E : Elt P e r.size bytes) (ht : P.underlying t = some (.slice e)) (hs : a.eval s = v) (hown : Own r w base e v l (fun _ => False))
    (ad : Addr) (c : Nat) (cs : List Value) (y : α) (hx : a.eval x = .slice (some ad) 1 c) (hy : r.holds w (fun _ => False) y cs) (hnews : ∀ j u, cs[j]? = some u → w.cell? (ad.add j) = some u)
    (h63 : l.length + 1 ≤ maxLen) (hbytes : (l.length + 1) * bytes ≤ 140737488355328) (hbase : base ≤ w.heap.size)
    (h : ∀ g cap w', Own r w' base e (.slice (some ⟨g, 0, none⟩) (l.length + 1) cap) (l ++ [y]) (fun _ => False) → w.grownBy w' v.ownBlock → g < w'.heap.size → wpListIn F n P ops Q rest (a.put o.dst (.slice (some ⟨g, 0, none⟩) (l.length + 1) cap)) w') :
    wpListIn F n P ops Q (o :: rest) a w := by
  obtain ⟨i, z, hi, hz, hsz, hby, hzs, hpos⟩ := E
  obtain ⟨h0, xs, h1, h2⟩ := hown
  refine wpListIn_append_own w hg s x t ho base e i z r.size bytes ht hi hz hsz hby hzs hpos v l.length xs hs h1 ad 1 c cs hx (by rw [r.len hy, Nat.one_mul]) hnews (r.one hy) h63 hbytes hbase ?_
  intro v' w' hown' hgrow _
  obtain ⟨g, cap, rfl, _, hlt⟩ := hown'.form (by omega)
  exact h g cap w' ⟨fun b hb => hb.elim, xs ++ cs, by simpa using hown', Elems.append (Elems.one_ (r.mono hy fun b hb _ => hb.elim)) (h2.mono fun b hb _ => hb.elim)⟩ hgrow hlt
end Go.Proofs.YtldjldkejjeamaaGreatDoor
