/-
  Sets of ranks as lists of runs, in plain words: one list for one set.
-/
import Derived.Test.YtldjldkejjeamaaGreatDoorVers
import Derived.Lib.Hide
set_option autoImplicit false
set_option relaxedAutoImplicit false
set_option linter.unusedVariables false
set_option linter.unusedSimpArgs false
namespace Go.Proofs.YtldjldkejjeamaaGreatDoor

abbrev Rk := Int × Int
/-- is a rank in one of the runs? -/
def Has (l : List Rk) (n : Int) : Prop := ∃ x ∈ l, x.1 ≤ n ∧ n ≤ x.2
/-- runs that rise and do not touch, from a rank on -/
def Nrm : Int → List Rk → Prop
  | _, [] => True
  | a, x :: l => a ≤ x.1 ∧ x.1 ≤ x.2 ∧ Nrm (x.2 + 2) l
theorem has_nil (n : Int) : ¬ Has [] n := fun ⟨x, h, _⟩ => by simp at h
theorem has_cons {x : Rk} {l : List Rk} {n : Int} : Has (x :: l) n ↔ (x.1 ≤ n ∧ n ≤ x.2) ∨ Has l n := by
  unfold Has
  constructor
  · rintro ⟨y, hy, h⟩
    rcases List.mem_cons.1 hy with rfl | hy
    · exact .inl h
    · exact .inr ⟨y, hy, h⟩
  · rintro (h | ⟨y, hy, h⟩)
    · exact ⟨x, by simp, h⟩
    · exact ⟨y, by simp [hy], h⟩
theorem has_append {l m : List Rk} {n : Int} : Has (l ++ m) n ↔ Has l n ∨ Has m n := by
  unfold Has
  constructor
  · rintro ⟨y, hy, h⟩
    rcases List.mem_append.1 hy with hy | hy
    · exact .inl ⟨y, hy, h⟩
    · exact .inr ⟨y, hy, h⟩
  · rintro (⟨y, hy, h⟩ | ⟨y, hy, h⟩)
    · exact ⟨y, by simp [hy], h⟩
    · exact ⟨y, by simp [hy], h⟩
theorem has_one {x : Rk} {n : Int} : Has [x] n ↔ x.1 ≤ n ∧ n ≤ x.2 := by rw [has_cons]; simp [has_nil]
theorem nrm_ge : ∀ {l : List Rk} {a n : Int}, Nrm a l → Has l n → a ≤ n := by
  intro l
  induction l with
  | nil => intro a n _ h; exact absurd h (has_nil n)
  | cons x l ih =>
    intro a n h hn
    obtain ⟨h1, h2, h3⟩ := h
    rcases has_cons.1 hn with hn | hn
    · omega
    · have := ih h3 hn; omega
theorem nrm_le : ∀ {l : List Rk} {a b : Int}, b ≤ a → Nrm a l → Nrm b l := by
  intro l a b hb h
  cases l with
  | nil => trivial
  | cons x l => exact ⟨by have := h.1; omega, h.2.1, h.2.2⟩
theorem nrm_one : ∀ {l m : List Rk} {a b : Int}, Nrm a l → Nrm b m → (∀ n, Has l n ↔ Has m n) → l = m := by
  intro l
  induction l with
  | nil =>
    intro m a b _ hm h
    cases m with
    | nil => rfl
    | cons y m => exact absurd ((h y.1).2 (has_cons.2 (.inl ⟨Int.le_refl _, hm.2.1⟩))) (has_nil _)
  | cons x l ih =>
    intro m a b hl hm h
    cases m with
    | nil => exact absurd ((h x.1).1 (has_cons.2 (.inl ⟨Int.le_refl _, hl.2.1⟩))) (has_nil _)
    | cons y m =>
      obtain ⟨l1, l2, l3⟩ := hl
      obtain ⟨m1, m2, m3⟩ := hm
      have e1 : y.1 ≤ x.1 := by
        rcases has_cons.1 ((h x.1).1 (has_cons.2 (.inl ⟨Int.le_refl _, l2⟩))) with g | g
        · exact g.1
        · have := nrm_ge m3 g; omega
      have e2 : x.1 ≤ y.1 := by
        rcases has_cons.1 ((h y.1).2 (has_cons.2 (.inl ⟨Int.le_refl _, m2⟩))) with g | g
        · exact g.1
        · have := nrm_ge l3 g; omega
      have e3 : ¬ x.2 < y.2 := by
        intro hlt
        rcases has_cons.1 ((h (x.2 + 1)).2 (has_cons.2 (.inl ⟨by omega, by omega⟩))) with g | g
        · omega
        · have := nrm_ge l3 g; omega
      have e4 : ¬ y.2 < x.2 := by
        intro hlt
        rcases has_cons.1 ((h (y.2 + 1)).1 (has_cons.2 (.inl ⟨by omega, by omega⟩))) with g | g
        · omega
        · have := nrm_ge m3 g; omega
      have e5 : l = m := ih l3 m3 fun n => by
        constructor
        · intro hn
          have h1 := nrm_ge l3 hn
          rcases has_cons.1 ((h n).1 (has_cons.2 (.inr hn))) with g | g
          · omega
          · exact g
        · intro hn
          have h1 := nrm_ge m3 hn
          rcases has_cons.1 ((h n).2 (has_cons.2 (.inr hn))) with g | g
          · omega
          · exact g
      have e6 : x = y := Prod.ext (by omega) (by omega)
      rw [e5, e6]

/-- what can be written as runs -/
def Runs (p : Int → Prop) : Prop := ∃ r, Nrm 0 r ∧ ∀ n, Has r n ↔ p n
open Classical in
/-- the one list of runs of a set -/
noncomputable def canon (p : Int → Prop) : List Rk := if h : Runs p then h.choose else []
theorem canon_nrm {p : Int → Prop} (h : Runs p) : Nrm 0 (canon p) := by unfold canon; rw [dif_pos h]; exact h.choose_spec.1
theorem canon_has {p : Int → Prop} (h : Runs p) (n : Int) : Has (canon p) n ↔ p n := by unfold canon; rw [dif_pos h]; exact h.choose_spec.2 n
theorem canon_is {p : Int → Prop} {r : List Rk} (h1 : Nrm 0 r) (h2 : ∀ n, Has r n ↔ p n) : canon p = r :=
  nrm_one (canon_nrm ⟨r, h1, h2⟩) h1 fun n => (canon_has ⟨r, h1, h2⟩ n).trans (h2 n).symm
theorem canon_self {r : List Rk} (h : Nrm 0 r) : canon (Has r) = r := canon_is h fun _ => Iff.rfl
theorem canon_congr {p q : Int → Prop} (h : ∀ n, p n ↔ q n) : canon p = canon q := by rw [show p = q from funext fun n => propext (h n)]

/-! ### what two lists have in common -/
def metF : List Rk → List Rk → List Rk
  | [], _ => []
  | _ :: _, [] => []
  | x :: a, y :: b => (if max x.1 y.1 ≤ min x.2 y.2 then [(max x.1 y.1, min x.2 y.2)] else []) ++ (if x.2 < y.2 then metF a (y :: b) else metF (x :: a) b)
termination_by a b => a.length + b.length
theorem metF_nil (a : List Rk) : metF a [] = [] := by cases a <;> simp [metF]
theorem metF_has : ∀ (m : Nat) (a b : List Rk) (c d : Int), a.length + b.length ≤ m → Nrm c a → Nrm d b → (∀ n, Has (metF a b) n ↔ Has a n ∧ Has b n) ∧ Nrm c (metF a b) ∧ Nrm d (metF a b) := by
  intro m
  induction m with
  | zero =>
    intro a b c d h _ _
    have : a = [] := List.eq_nil_of_length_eq_zero (by omega)
    subst this
    rw [metF]
    exact ⟨fun n => by simp [has_nil], trivial, trivial⟩
  | succ m ih =>
    intro a b c d h ha hb
    cases a with
    | nil => rw [metF]; exact ⟨fun n => by simp [has_nil], trivial, trivial⟩
    | cons x a =>
      cases b with
      | nil => rw [metF]; exact ⟨fun n => by simp [has_nil], trivial, trivial⟩
      | cons y b =>
        simp only [List.length_cons] at h
        have ha' := ha
        have hb' := hb
        obtain ⟨a1, a2, a3⟩ := ha
        obtain ⟨b1, b2, b3⟩ := hb
        rw [metF]
        by_cases hc : x.2 < y.2
        · rw [if_pos hc]
          obtain ⟨r1, r2, r3⟩ := ih a (y :: b) (x.2 + 2) d (by simp only [List.length_cons]; omega) a3 hb'
          constructor
          · intro n
            rw [has_append, r1 n, has_cons (x := x) (l := a)]
            by_cases hm : max x.1 y.1 ≤ min x.2 y.2
            · rw [if_pos hm, has_one]
              constructor
              · rintro (g | ⟨g1, g2⟩)
                · exact ⟨.inl ⟨by simp only at g; omega, by simp only at g; omega⟩, has_cons.2 (.inl ⟨by simp only at g; omega, by simp only at g; omega⟩)⟩
                · exact ⟨.inr g1, g2⟩
              · rintro ⟨g1 | g1, g2⟩
                · rcases has_cons.1 g2 with g3 | g3
                  · exact .inl ⟨by simp only; omega, by simp only; omega⟩
                  · have := nrm_ge b3 g3; omega
                · exact .inr ⟨g1, g2⟩
            · rw [if_neg hm]
              constructor
              · rintro (g | ⟨g1, g2⟩)
                · exact absurd g (has_nil n)
                · exact ⟨.inr g1, g2⟩
              · rintro ⟨g1 | g1, g2⟩
                · rcases has_cons.1 g2 with g3 | g3
                  · omega
                  · have := nrm_ge b3 g3; omega
                · exact .inr ⟨g1, g2⟩
          · by_cases hm : max x.1 y.1 ≤ min x.2 y.2
            · rw [if_pos hm]
              exact ⟨⟨by simp only; omega, hm, nrm_le (by simp only; omega) r2⟩, ⟨by simp only; omega, hm, nrm_le (by simp only; omega) r2⟩⟩
            · rw [if_neg hm]
              exact ⟨nrm_le (by omega) r2, r3⟩
        · rw [if_neg hc]
          obtain ⟨r1, r2, r3⟩ := ih (x :: a) b c (y.2 + 2) (by simp only [List.length_cons]; omega) ha' b3
          constructor
          · intro n
            rw [has_append, r1 n, has_cons (x := y) (l := b)]
            by_cases hm : max x.1 y.1 ≤ min x.2 y.2
            · rw [if_pos hm, has_one]
              constructor
              · rintro (g | ⟨g1, g2⟩)
                · exact ⟨has_cons.2 (.inl ⟨by simp only at g; omega, by simp only at g; omega⟩), .inl ⟨by simp only at g; omega, by simp only at g; omega⟩⟩
                · exact ⟨g1, .inr g2⟩
              · rintro ⟨g2, g1 | g1⟩
                · rcases has_cons.1 g2 with g3 | g3
                  · exact .inl ⟨by simp only; omega, by simp only; omega⟩
                  · have := nrm_ge a3 g3; omega
                · exact .inr ⟨g2, g1⟩
            · rw [if_neg hm]
              constructor
              · rintro (g | ⟨g1, g2⟩)
                · exact absurd g (has_nil n)
                · exact ⟨g1, .inr g2⟩
              · rintro ⟨g2, g1 | g1⟩
                · rcases has_cons.1 g2 with g3 | g3
                  · omega
                  · have := nrm_ge a3 g3; omega
                · exact .inr ⟨g2, g1⟩
          · by_cases hm : max x.1 y.1 ≤ min x.2 y.2
            · rw [if_pos hm]
              exact ⟨⟨by simp only; omega, hm, nrm_le (by simp only; omega) r3⟩, ⟨by simp only; omega, hm, nrm_le (by simp only; omega) r3⟩⟩
            · rw [if_neg hm]
              exact ⟨r2, nrm_le (by omega) r3⟩

/-! ### what a list has not -/
def lastR : Int := 999999999
def othersF : Int → List Rk → List Rk
  | f, [] => if f ≤ lastR then [(f, lastR)] else []
  | f, x :: l => (if f < x.1 then [(f, x.1 - 1)] else []) ++ othersF (x.2 + 1) l
def Bnd (l : List Rk) : Prop := ∀ x ∈ l, x.2 ≤ lastR
theorem Bnd.has {l : List Rk} (h : Bnd l) {n : Int} (hn : Has l n) : n ≤ lastR := by
  obtain ⟨x, hx, h1, h2⟩ := hn
  have := h x hx
  omega
theorem othersF_has : ∀ (l : List Rk) (f : Int), Nrm f l → Bnd l → (∀ n, Has (othersF f l) n ↔ f ≤ n ∧ n ≤ lastR ∧ ¬ Has l n) ∧ Nrm f (othersF f l) := by
  intro l
  induction l with
  | nil =>
    intro f _ _
    rw [othersF]
    by_cases h : f ≤ lastR
    · rw [if_pos h]
      exact ⟨fun n => by rw [has_one]; simp [has_nil], ⟨Int.le_refl _, h, trivial⟩⟩
    · rw [if_neg h]
      exact ⟨fun n => ⟨fun g => absurd g (has_nil n), fun g => by omega⟩, trivial⟩
  | cons x l ih =>
    intro f hl hb
    obtain ⟨l1, l2, l3⟩ := hl
    have hx : x.2 ≤ lastR := hb x (by simp)
    obtain ⟨r1, r2⟩ := ih (x.2 + 1) (nrm_le (by omega) l3) (fun y hy => hb y (by simp [hy]))
    rw [othersF]
    have hlo : ∀ n, n < x.1 → ¬ Has l n := fun n hn g => by have := nrm_ge l3 g; omega
    by_cases h : f < x.1
    · rw [if_pos h]
      refine ⟨fun n => ?_, ⟨Int.le_refl _, by simp only; omega, nrm_le (by simp only; omega) r2⟩⟩
      rw [has_append, has_one, r1 n, has_cons]
      simp only
      constructor
      · rintro (g | ⟨g1, g2, g3⟩)
        · exact ⟨g.1, by omega, by rintro (g' | g'); · omega
                                   · exact hlo n (by omega) g'⟩
        · exact ⟨by omega, g2, by rintro (g' | g'); · omega
                                  · exact g3 g'⟩
      · rintro ⟨g1, g2, g3⟩
        by_cases hn : n < x.1
        · exact .inl ⟨g1, by omega⟩
        · refine .inr ⟨?_, g2, fun g => g3 (.inr g)⟩
          by_cases hx2 : n ≤ x.2
          · exact absurd (.inl ⟨by omega, hx2⟩) g3
          · omega
    · rw [if_neg h]
      refine ⟨fun n => ?_, nrm_le (by omega) r2⟩
      rw [List.nil_append, r1 n, has_cons]
      constructor
      · rintro ⟨g1, g2, g3⟩
        exact ⟨by omega, g2, by rintro (g' | g'); · omega
                                · exact g3 g'⟩
      · rintro ⟨g1, g2, g3⟩
        refine ⟨?_, g2, fun g => g3 (.inr g)⟩
        by_cases hx2 : n ≤ x.2
        · exact absurd (.inl ⟨by omega, hx2⟩) g3
        · omega

/-! ### ranks that are put in order, without those that touch -/
def endOf : Int → List Rk → Int
  | a, [] => a
  | _, x :: l => endOf (x.2 + 2) l
theorem endOf_snoc : ∀ (l : List Rk) (a : Int) (x : Rk), endOf a (l ++ [x]) = x.2 + 2 := by
  intro l
  induction l with
  | nil => intro a x; rfl
  | cons y l ih => intro a x; exact ih _ x
theorem nrm_snoc : ∀ {l : List Rk} {a : Int} {x : Rk}, Nrm a (l ++ [x]) ↔ Nrm a l ∧ endOf a l ≤ x.1 ∧ x.1 ≤ x.2 := by
  intro l
  induction l with
  | nil => intro a x; exact ⟨fun h => ⟨trivial, h.1, h.2.1⟩, fun h => ⟨h.2.1, h.2.2, trivial⟩⟩
  | cons y l ih =>
    intro a x
    constructor
    · rintro ⟨h1, h2, h3⟩
      obtain ⟨g1, g2⟩ := ih.1 h3
      exact ⟨⟨h1, h2, g1⟩, g2⟩
    · rintro ⟨⟨h1, h2, h3⟩, g⟩
      exact ⟨h1, h2, ih.2 ⟨h3, g⟩⟩
/-- one run more, behind those that are there -/
def mergeS (out : List Rk) (x : Rk) : List Rk := match out.getLast? with
  | none => [x]
  | some y => if x.1 ≤ y.2 + 1 then out.dropLast ++ [(y.1, max y.2 x.2)] else out ++ [x]
theorem mergeS_nil (x : Rk) : mergeS [] x = [x] := rfl
theorem mergeS_snoc (l : List Rk) (y x : Rk) : mergeS (l ++ [y]) x = if x.1 ≤ y.2 + 1 then l ++ [(y.1, max y.2 x.2)] else l ++ [y] ++ [x] := by
  unfold mergeS
  simp [List.getLast?_append]
def mergeL (l : List Rk) : List Rk := l.foldl mergeS []
theorem mergeL_snoc (l : List Rk) (x : Rk) : mergeL (l ++ [x]) = mergeS (mergeL l) x := by unfold mergeL; rw [List.foldl_append]; rfl
theorem list_snoc {α : Type} (l : List α) : l = [] ∨ ∃ i y, l = i ++ [y] := by
  rcases List.eq_nil_or_concat l with h | ⟨i, y, h⟩
  · exact .inl h
  · exact .inr ⟨i, y, by rw [h, List.concat_eq_append]⟩
theorem mergeL_has : ∀ (l : List Rk), (∀ x ∈ l, 0 ≤ x.1 ∧ x.1 ≤ x.2) → l.Pairwise (fun x y => x.1 ≤ y.1) →
    Nrm 0 (mergeL l) ∧ (∀ n, Has (mergeL l) n ↔ Has l n) ∧ ((mergeL l = [] ∧ l = []) ∨ ∃ i y z j, mergeL l = i ++ [y] ∧ l = j ++ [z] ∧ y.1 ≤ z.1) := by
  intro l
  refine (show ∀ (r : List Rk), (∀ x ∈ r.reverse, 0 ≤ x.1 ∧ x.1 ≤ x.2) → r.reverse.Pairwise (fun x y => x.1 ≤ y.1) →
    Nrm 0 (mergeL r.reverse) ∧ (∀ n, Has (mergeL r.reverse) n ↔ Has r.reverse n) ∧ ((mergeL r.reverse = [] ∧ r.reverse = []) ∨ ∃ i y z j, mergeL r.reverse = i ++ [y] ∧ r.reverse = j ++ [z] ∧ y.1 ≤ z.1) from ?_) l.reverse |> fun h => by rw [List.reverse_reverse] at h; exact h
  intro r
  induction r with
  | nil => intro _ _; exact ⟨trivial, fun n => Iff.rfl, .inl ⟨rfl, rfl⟩⟩
  | cons x r ih =>
    rw [List.reverse_cons]
    intro h1 h2
    have hx := h1 x (by simp)
    obtain ⟨p1, _, p3⟩ := List.pairwise_append.1 h2
    obtain ⟨n1, n2, n3⟩ := ih (fun y hy => h1 y (List.mem_append_left _ hy)) p1
    rw [mergeL_snoc]
    rcases n3 with ⟨e1, e2⟩ | ⟨i, y, z, j, e1, e2, e3⟩
    · rw [e1, e2, mergeS_nil]
      exact ⟨⟨hx.1, hx.2, trivial⟩, fun n => by simp, .inr ⟨[], x, x, [], rfl, rfl, Int.le_refl _⟩⟩
    · have hzx : z.1 ≤ x.1 := p3 z (by rw [e2]; simp) x (by simp)
      rw [e1] at n1 n2
      rw [e1, mergeS_snoc]
      obtain ⟨m1, m2, m3⟩ := nrm_snoc.1 n1
      by_cases ht : x.1 ≤ y.2 + 1
      · rw [if_pos ht]
        refine ⟨nrm_snoc.2 ⟨m1, m2, by simp only; omega⟩, fun n => ?_, .inr ⟨i, _, x, _, rfl, rfl, by simp only; omega⟩⟩
        rw [has_append, has_one, has_append, has_one, ← n2 n, has_append, has_one]
        simp only
        constructor
        · rintro (g | g)
          · exact .inl (.inl g)
          · by_cases hn : n ≤ y.2
            · exact .inl (.inr ⟨g.1, hn⟩)
            · exact .inr ⟨by omega, by omega⟩
        · rintro ((g | g) | g)
          · exact .inl g
          · exact .inr ⟨g.1, by omega⟩
          · exact .inr ⟨by omega, by omega⟩
      · rw [if_neg ht]
        refine ⟨nrm_snoc.2 ⟨n1, by rw [endOf_snoc]; omega, hx.2⟩, fun n => ?_, .inr ⟨_, x, x, _, rfl, rfl, Int.le_refl _⟩⟩
        rw [has_append, has_append (l := r.reverse), n2 n]

/-! ### where all places are tried -/
def foldGo (q : Int → Bool) : List Int → Int → List Rk
  | [], _ => []
  | m :: L, f => if (decide (m ≤ lastR) && q m) = true then (if f < 0 then foldGo q L m else foldGo q L f) else (if 0 ≤ f then (f, m - 1) :: foldGo q L (-1) else foldGo q L f)
/-- between two of the places nothing changes; the last one is behind the last rank -/
def Steady (q : Int → Bool) : List Int → Prop
  | [] => False
  | [m] => m = lastR + 1
  | m :: m' :: L => m < m' ∧ (∀ n, m ≤ n → n < m' → q n = q m) ∧ Steady q (m' :: L)
theorem Steady.le {q : Int → Bool} : ∀ {L : List Int} {m : Int}, Steady q (m :: L) → m ≤ lastR + 1 := by
  intro L
  induction L with
  | nil => intro m h; have : m = lastR + 1 := h; omega
  | cons m' L ih => intro m h; have := ih h.2.2; have := h.1; omega
theorem foldGo_has {q : Int → Bool} : ∀ (L : List Int) (m : Int), 0 ≤ m → Steady q (m :: L) →
    ((∀ n, Has (foldGo q (m :: L) (-1)) n ↔ m ≤ n ∧ n ≤ lastR ∧ q n = true) ∧ Nrm m (foldGo q (m :: L) (-1))) ∧
    (∀ f, 0 ≤ f → f < m → (∀ n, Has (foldGo q (m :: L) f) n ↔ (f ≤ n ∧ n < m) ∨ (m ≤ n ∧ n ≤ lastR ∧ q n = true)) ∧ Nrm f (foldGo q (m :: L) f)) := by
  intro L
  induction L with
  | nil =>
    intro m h0 hs
    have hm : m = lastR + 1 := hs
    have hc : ¬ (decide (m ≤ lastR) && q m) = true := by simp; intro h; omega
    constructor
    · rw [foldGo, if_neg hc, if_neg (by omega), foldGo]
      exact ⟨fun n => ⟨fun g => absurd g (has_nil n), fun g => by omega⟩, trivial⟩
    · intro f hf hfm
      rw [foldGo, if_neg hc, if_pos hf, foldGo]
      refine ⟨fun n => ?_, ⟨Int.le_refl _, by simp only; omega, trivial⟩⟩
      rw [has_one]
      simp only
      constructor
      · intro g; exact .inl ⟨g.1, by omega⟩
      · rintro (g | g)
        · exact ⟨g.1, by omega⟩
        · omega
  | cons m' L ih =>
    intro m h0 hs
    obtain ⟨s1, s2, s3⟩ := hs
    have hle := s3.le
    obtain ⟨⟨i1, i2⟩, i3⟩ := ih m' (by omega) s3
    by_cases hc : (decide (m ≤ lastR) && q m) = true
    · have hq : q m = true := by simp at hc; exact hc.2
      constructor
      · rw [foldGo, if_pos hc, if_pos (by omega)]
        obtain ⟨j1, j2⟩ := i3 m h0 s1
        refine ⟨fun n => ?_, j2⟩
        rw [j1 n]
        constructor
        · rintro (g | g)
          · exact ⟨g.1, by omega, by rw [s2 n g.1 g.2]; exact hq⟩
          · exact ⟨by omega, g.2⟩
        · rintro ⟨g1, g2, g3⟩
          by_cases hn : n < m'
          · exact .inl ⟨g1, hn⟩
          · exact .inr ⟨by omega, g2, g3⟩
      · intro f hf hfm
        rw [foldGo, if_pos hc, if_neg (by omega)]
        obtain ⟨j1, j2⟩ := i3 f hf (by omega)
        refine ⟨fun n => ?_, j2⟩
        rw [j1 n]
        constructor
        · rintro (g | g)
          · by_cases hn : n < m
            · exact .inl ⟨g.1, hn⟩
            · exact .inr ⟨by omega, by omega, by rw [s2 n (by omega) g.2]; exact hq⟩
          · exact .inr ⟨by omega, g.2⟩
        · rintro (g | ⟨g1, g2, g3⟩)
          · exact .inl ⟨g.1, by omega⟩
          · by_cases hn : n < m'
            · exact .inl ⟨by omega, hn⟩
            · exact .inr ⟨by omega, g2, g3⟩
    · have hq : m ≤ lastR → q m = false := by
        intro h; simp [h] at hc; exact hc
      constructor
      · rw [foldGo, if_neg hc, if_neg (by omega)]
        refine ⟨fun n => ?_, nrm_le (by omega) i2⟩
        rw [i1 n]
        constructor
        · rintro ⟨g1, g2, g3⟩; exact ⟨by omega, g2, g3⟩
        · rintro ⟨g1, g2, g3⟩
          by_cases hn : n < m'
          · rw [s2 n g1 hn, hq (by omega)] at g3; cases g3
          · exact ⟨by omega, g2, g3⟩
      · intro f hf hfm
        rw [foldGo, if_neg hc, if_pos hf]
        refine ⟨fun n => ?_, ⟨Int.le_refl _, by simp only; omega, nrm_le (by simp only; omega) i2⟩⟩
        rw [has_cons, i1 n]
        simp only
        constructor
        · rintro (g | ⟨g1, g2, g3⟩)
          · exact .inl ⟨g.1, by omega⟩
          · exact .inr ⟨by omega, g2, g3⟩
        · rintro (g | ⟨g1, g2, g3⟩)
          · exact .inl ⟨g.1, by omega⟩
          · by_cases hn : n < m'
            · rw [s2 n g1 hn, hq (by omega)] at g3; cases g3
            · exact .inr ⟨by omega, g2, g3⟩
/-- a number more in a list that rises, if it isn't there -/
def addF (l : List Int) (n : Int) : List Int := if n ∈ l then l else l.takeWhile (fun m => decide (m < n)) ++ n :: l.dropWhile (fun m => decide (m < n))
def endsF (l : List Int) (a : List Rk) : List Int := a.foldl (fun l x => addF (addF l x.1) (x.2 + 1)) l
theorem mem_takeWhile_lt {l : List Int} {n m : Int} (h : m ∈ l.takeWhile (fun m => decide (m < n))) : m < n := by
  induction l with
  | nil => simp at h
  | cons y l ih =>
    by_cases hy : y < n
    · rw [List.takeWhile_cons_of_pos (by simpa using hy)] at h
      rcases List.mem_cons.1 h with rfl | h
      · exact hy
      · exact ih h
    · rw [List.takeWhile_cons_of_neg (by simpa using hy)] at h; simp at h
theorem mem_dropWhile_lt {l : List Int} {n m : Int} (hl : l.Pairwise (· < ·)) (h : m ∈ l.dropWhile (fun m => decide (m < n))) : n ≤ m := by
  induction l with
  | nil => simp at h
  | cons y l ih =>
    by_cases hy : y < n
    · rw [List.dropWhile_cons_of_pos (by simpa using hy)] at h
      exact ih (List.pairwise_cons.1 hl).2 h
    · rw [List.dropWhile_cons_of_neg (by simpa using hy)] at h
      rcases List.mem_cons.1 h with rfl | h
      · omega
      · have := (List.pairwise_cons.1 hl).1 m h; omega
theorem mem_addF {l : List Int} {n m : Int} : m ∈ addF l n ↔ m = n ∨ m ∈ l := by
  unfold addF
  by_cases h : n ∈ l
  · rw [if_pos h]
    constructor
    · exact .inr
    · rintro (rfl | g)
      · exact h
      · exact g
  · rw [if_neg h]
    conv => rhs; rw [← List.takeWhile_append_dropWhile (p := fun m => decide (m < n)) (l := l)]
    simp only [List.mem_append, List.mem_cons]
    constructor
    · rintro (g | g | g)
      · exact .inr (.inl g)
      · exact .inl g
      · exact .inr (.inr g)
    · rintro (g | g | g)
      · exact .inr (.inl g)
      · exact .inl g
      · exact .inr (.inr g)
theorem addF_sorted {l : List Int} (hl : l.Pairwise (· < ·)) (n : Int) : (addF l n).Pairwise (· < ·) := by
  unfold addF
  by_cases h : n ∈ l
  · rw [if_pos h]; exact hl
  · rw [if_neg h]
    refine List.pairwise_append.2 ⟨hl.sublist (List.takeWhile_sublist _), List.pairwise_cons.2 ⟨?_, hl.sublist (List.dropWhile_sublist _)⟩, ?_⟩
    · intro m hm
      have := mem_dropWhile_lt hl hm
      have : m ≠ n := fun e => h (e ▸ (List.dropWhile_sublist _).subset hm)
      omega
    · intro m hm m' hm'
      have h1 := mem_takeWhile_lt hm
      rcases List.mem_cons.1 hm' with rfl | hm'
      · exact h1
      · have := mem_dropWhile_lt hl hm'; omega
theorem mem_endsF {a : List Rk} : ∀ {l : List Int} {m : Int}, m ∈ endsF l a ↔ m ∈ l ∨ ∃ x ∈ a, m = x.1 ∨ m = x.2 + 1 := by
  induction a with
  | nil => intro l m; simp [endsF]
  | cons x a ih =>
    intro l m
    have e : endsF l (x :: a) = endsF (addF (addF l x.1) (x.2 + 1)) a := rfl
    rw [e, ih, mem_addF, mem_addF]
    constructor
    · rintro ((g | g | g) | ⟨y, hy, g⟩)
      · exact .inr ⟨x, by simp, .inr g⟩
      · exact .inr ⟨x, by simp, .inl g⟩
      · exact .inl g
      · exact .inr ⟨y, by simp [hy], g⟩
    · rintro (g | ⟨y, hy, g⟩)
      · exact .inl (.inr (.inr g))
      · rcases List.mem_cons.1 hy with rfl | hy
        · rcases g with g | g
          · exact .inl (.inr (.inl g))
          · exact .inl (.inl g)
        · exact .inr ⟨y, hy, g⟩
theorem endsF_sorted {a : List Rk} : ∀ {l : List Int}, l.Pairwise (· < ·) → (endsF l a).Pairwise (· < ·) := by
  induction a with
  | nil => intro l h; exact h
  | cons x a ih => intro l h; exact ih (addF_sorted (addF_sorted h _) _)
theorem steady_of {q : Int → Bool} : ∀ {L : List Int} {m : Int}, (m :: L).Pairwise (· < ·) → lastR + 1 ∈ m :: L → (∀ k ∈ m :: L, k ≤ lastR + 1) →
    (∀ k ∈ m :: L, ∀ n, k ≤ n → (∀ k' ∈ m :: L, ¬ (k < k' ∧ k' ≤ n)) → q n = q k) → Steady q (m :: L) := by
  intro L
  induction L with
  | nil =>
    intro m _ h1 _ _
    rcases List.mem_cons.1 h1 with h | h
    · exact h.symm
    · simp at h
  | cons m' L ih =>
    intro m hp h1 h2 h3
    obtain ⟨p1, p2⟩ := List.pairwise_cons.1 hp
    have hlt := p1 m' (by simp)
    refine ⟨hlt, fun n hn hn' => h3 m (by simp) n hn ?_, ih p2 ?_ (fun k hk => h2 k (List.mem_cons_of_mem _ hk)) ?_⟩
    · intro k' hk' ⟨g1, g2⟩
      rcases List.mem_cons.1 hk' with rfl | hk'
      · omega
      · rcases List.mem_cons.1 hk' with rfl | hk'
        · omega
        · have := (List.pairwise_cons.1 p2).1 k' hk'; omega
    · rcases List.mem_cons.1 h1 with h | h
      · have := h2 m' (by simp); omega
      · exact h
    · intro k hk n hn hno
      refine h3 k (List.mem_cons_of_mem _ hk) n hn ?_
      intro k' hk' ⟨g1, g2⟩
      rcases List.mem_cons.1 hk' with rfl | hk'
      · have := p1 k hk; omega
      · exact hno k' hk' ⟨g1, g2⟩
open Classical in
noncomputable def hasB (l : List Rk) (n : Int) : Bool := decide (Has l n)
open Classical in
theorem hasB_yes {l : List Rk} {n : Int} (h : Has l n) : hasB l n = true := by unfold hasB; exact decide_eq_true h
open Classical in
theorem hasB_no {l : List Rk} {n : Int} (h : ¬ Has l n) : hasB l n = false := by unfold hasB; exact decide_eq_false h
open Classical in
theorem hasB_iff {l : List Rk} {n : Int} : hasB l n = true ↔ Has l n := by unfold hasB; exact decide_eq_true_iff
/-- by the kind: m both, j one, c the first alone -/
def wantB (kind : Nat) (x y : Bool) : Bool := if kind = 109 then x && y else if kind = 106 then x || y else x && !y
noncomputable def foldedF (kind : Nat) (a b : List Rk) : List Rk := foldGo (fun n => wantB kind (hasB a n) (hasB b n)) (endsF (endsF [0, lastR + 1] a) b) (-1)
theorem has_steady {a : List Rk} {m n : Int} (hmn : m ≤ n) (h : ∀ x ∈ a, ¬ (m < x.1 ∧ x.1 ≤ n) ∧ ¬ (m < x.2 + 1 ∧ x.2 + 1 ≤ n)) : hasB a n = hasB a m := by
  have this : Has a n ↔ Has a m := by
    constructor
    · rintro ⟨x, hx, g1, g2⟩
      have := h x hx
      exact ⟨x, hx, by omega, by omega⟩
    · rintro ⟨x, hx, g1, g2⟩
      have := h x hx
      exact ⟨x, hx, by omega, by omega⟩
  exact decide_eq_decide.2 this
/-- runs that are among the ranks -/
def In0 (l : List Rk) : Prop := ∀ x ∈ l, 0 ≤ x.1 ∧ x.1 ≤ x.2 ∧ x.2 ≤ lastR
theorem foldedF_has (kind : Nat) {a b : List Rk} (ha : In0 a) (hb : In0 b) :
    (∀ n, Has (foldedF kind a b) n ↔ 0 ≤ n ∧ n ≤ lastR ∧ wantB kind (hasB a n) (hasB b n) = true) ∧ Nrm 0 (foldedF kind a b) := by
  unfold foldedF
  have hmem : ∀ m, m ∈ endsF (endsF [0, lastR + 1] a) b ↔ (m = 0 ∨ m = lastR + 1) ∨ (∃ x ∈ a, m = x.1 ∨ m = x.2 + 1) ∨ ∃ x ∈ b, m = x.1 ∨ m = x.2 + 1 := by
    intro m; rw [mem_endsF, mem_endsF]; simp only [List.mem_cons, List.not_mem_nil, or_false, or_assoc]
  have hsort : (endsF (endsF [0, lastR + 1] a) b).Pairwise (· < ·) := endsF_sorted (endsF_sorted (by simp [lastR]))
  have hlo : ∀ m ∈ endsF (endsF [0, lastR + 1] a) b, 0 ≤ m ∧ m ≤ lastR + 1 := by
    intro m hm
    rcases (hmem m).1 hm with (h | h) | ⟨x, hx, h⟩ | ⟨x, hx, h⟩
    · unfold lastR; omega
    · unfold lastR at *; omega
    · have := ha x hx; omega
    · have := hb x hx; omega
  have h0 : (0 : Int) ∈ endsF (endsF [0, lastR + 1] a) b := (hmem 0).2 (.inl (.inl rfl))
  have h9 : lastR + 1 ∈ endsF (endsF [0, lastR + 1] a) b := (hmem _).2 (.inl (.inr rfl))
  have hst : ∀ k ∈ endsF (endsF [0, lastR + 1] a) b, ∀ n, k ≤ n → (∀ k' ∈ endsF (endsF [0, lastR + 1] a) b, ¬ (k < k' ∧ k' ≤ n)) → wantB kind (hasB a n) (hasB b n) = wantB kind (hasB a k) (hasB b k) := by
    intro k _ n hn hno
    rw [has_steady hn (a := a) fun x hx => ⟨hno _ ((hmem _).2 (.inr (.inl ⟨x, hx, .inl rfl⟩))), hno _ ((hmem _).2 (.inr (.inl ⟨x, hx, .inr rfl⟩)))⟩,
      has_steady hn (a := b) fun x hx => ⟨hno _ ((hmem _).2 (.inr (.inr ⟨x, hx, .inl rfl⟩))), hno _ ((hmem _).2 (.inr (.inr ⟨x, hx, .inr rfl⟩)))⟩]
  generalize endsF (endsF [0, lastR + 1] a) b = L at *
  cases L with
  | nil => simp at h0
  | cons m L =>
    have hm : m = 0 := by
      rcases List.mem_cons.1 h0 with h | h
      · exact h.symm
      · have := (List.pairwise_cons.1 hsort).1 0 h
        have := (hlo m (by simp)).1
        omega
    subst hm
    exact (foldGo_has L 0 (Int.le_refl _) (steady_of (q := fun n => wantB kind (hasB a n) (hasB b n)) hsort h9 (fun k hk => (hlo k hk).2) hst)).1
end Go.Proofs.YtldjldkejjeamaaGreatDoor
