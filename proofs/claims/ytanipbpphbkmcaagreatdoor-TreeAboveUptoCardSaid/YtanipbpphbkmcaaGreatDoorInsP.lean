/-
  What stands in a directory's modules, by names: the order, and lists that are in it.
-/
import Derived.Test.YtanipbpphbkmcaaGreatDoorFind
import Derived.Test.YtanipbpphbkmcaaGreatDoorShelfS
import Derived.Sort.LotA
import Derived.Sort.Walk0
set_option autoImplicit false
set_option relaxedAutoImplicit false
set_option linter.unusedVariables false
set_option linter.unusedSimpArgs false
namespace Go.Proofs.YtanipbpphbkmcaaGreatDoor
open Go.Rows Go.RowKit Go.Shelf Go.Sort

theorem cb_spec : ∀ a b : List UInt8, (Lib.compareBytes a b < 0 ↔ a < b) ∧ (Lib.compareBytes a b = 0 ↔ a = b)
  | [], [] => by simp [Lib.compareBytes]
  | [], _ :: _ => by simp [Lib.compareBytes]
  | _ :: _, [] => by simp [Lib.compareBytes]
  | x :: a, y :: b => by
    have ih := cb_spec a b
    rw [Lib.compareBytes, List.cons_lt_cons_iff, List.cons.injEq]
    by_cases h1 : x < y
    · have hne : x ≠ y := fun e => by subst e; exact UInt8.lt_irrefl x h1
      simp [h1, hne]
    · by_cases h2 : y < x
      · have hne : x ≠ y := fun e => by subst e; exact UInt8.lt_irrefl x h2
        simp [h1, h2, hne]
      · have he : x = y := UInt8.le_antisymm (UInt8.not_lt.1 h2) (UInt8.not_lt.1 h1)
        simp [h1, h2, he, ih.1, ih.2]
def orI (x y : Int) : Int := if x ≠ 0 then x else y
def cfN (nm : Nat → List UInt8) (x y : Nat) : Int := orI (Lib.compareBytes (nm x) (nm y)) (Lib.compareInt x y)
/-- by the name, then by the place -/
def ltN (nm : Nat → List UInt8) (x y : Nat) : Bool := decide (nm x < nm y) || (decide (nm x = nm y) && decide (x < y))
theorem cfN_lt (nm : Nat → List UInt8) (x y : Nat) : decide (cfN nm x y < 0) = ltN nm x y := by
  have hs := cb_spec (nm x) (nm y)
  unfold cfN orI ltN
  by_cases h0 : Lib.compareBytes (nm x) (nm y) = 0
  · have he := hs.2.1 h0
    rw [if_neg (by simpa using h0), he]
    have : ¬ nm y < nm y := List.lt_irrefl _
    rw [decide_eq_false this, decide_eq_true (rfl : nm y = nm y), Bool.false_or, Bool.true_and]
    unfold Lib.compareInt
    by_cases hxy : x < y
    · rw [if_pos (by omega), decide_eq_true hxy]; rfl
    · rw [if_neg (by omega), decide_eq_false hxy]
      split <;> rfl
  · have hne : nm x ≠ nm y := fun e => h0 (hs.2.2 e)
    rw [if_pos h0, decide_eq_false hne, Bool.false_and, Bool.or_false]
    exact decide_eq_decide.2 hs.1
theorem ltN_iff {nm : Nat → List UInt8} {x y : Nat} : ltN nm x y = true ↔ nm x < nm y ∨ (nm x = nm y ∧ x < y) := by unfold ltN; simp
theorem ltN_trans {nm : Nat → List UInt8} {x y z : Nat} (h1 : ltN nm x y = true) (h2 : ltN nm y z = true) : ltN nm x z = true := by
  rw [ltN_iff] at h1 h2 ⊢
  rcases h1 with h1 | ⟨h1, h1'⟩
  · rcases h2 with h2 | ⟨h2, h2'⟩
    · exact .inl (List.lt_trans h1 h2)
    · rw [h2] at h1; exact .inl h1
  · rcases h2 with h2 | ⟨h2, h2'⟩
    · rw [← h1] at h2; exact .inl h2
    · exact .inr ⟨h1.trans h2, by omega⟩
theorem ltN_irrefl (nm : Nat → List UInt8) (x : Nat) : ltN nm x x = false := by
  cases h : ltN nm x x
  · rfl
  · rw [ltN_iff] at h
    rcases h with h | ⟨_, h⟩
    · exact absurd h (List.lt_irrefl _)
    · omega
theorem ltN_asymm {nm : Nat → List UInt8} {x y : Nat} (h : ltN nm x y = true) : ltN nm y x = false := by
  cases h' : ltN nm y x
  · rfl
  · have := ltN_trans h h'
    rw [ltN_irrefl] at this; cases this
theorem ltN_total {nm : Nat → List UInt8} {x y : Nat} (h1 : ltN nm x y = false) (h2 : ltN nm y x = false) : x = y := by
  have a1 : ¬ (nm x < nm y ∨ (nm x = nm y ∧ x < y)) := fun h => by rw [ltN_iff.2 h] at h1; cases h1
  have a2 : ¬ (nm y < nm x ∨ (nm y = nm x ∧ y < x)) := fun h => by rw [ltN_iff.2 h] at h2; cases h2
  have e : nm x = nm y := List.le_antisymm (List.not_lt.1 fun h => a2 (.inl h)) (List.not_lt.1 fun h => a1 (.inl h))
  have b1 : ¬ x < y := fun h => a1 (.inr ⟨e, h⟩)
  have b2 : ¬ y < x := fun h => a2 (.inr ⟨e.symm, h⟩)
  omega
theorem ltN_ntrans {nm : Nat → List UInt8} {x y z : Nat} (h1 : ltN nm x y = false) (h2 : ltN nm y z = false) : ltN nm x z = false := by
  cases h : ltN nm x z
  · rfl
  · cases h3 : ltN nm y x
    · have e := ltN_total h1 h3
      subst e
      rw [h] at h2; exact h2
    · rw [ltN_trans h3 h] at h2; exact h2

/-- put at its place: behind all whose names are not greater -/
def insAt (nm : Nat → List UInt8) (l : List Nat) (i : Nat) : List Nat := l.takeWhile (fun j => decide (nm j ≤ nm i)) ++ i :: l.dropWhile (fun j => decide (nm j ≤ nm i))
def insR (nm : Nat → List UInt8) (q : Nat → Bool) : Nat → List Nat
  | 0 => []
  | k + 1 => bif q k then insAt nm (insR nm q k) k else insR nm q k
theorem insAt_perm (nm : Nat → List UInt8) (l : List Nat) (i : Nat) : (insAt nm l i).Perm (l ++ [i]) := by
  unfold insAt
  have h := List.takeWhile_append_dropWhile (p := fun j => decide (nm j ≤ nm i)) (l := l)
  conv => rhs; rw [← h]
  rw [List.append_assoc]
  exact List.Perm.append_left _ (List.perm_append_comm (l₁ := [i]))
theorem insR_perm (nm : Nat → List UInt8) (q : Nat → Bool) : ∀ k, (insR nm q k).Perm ((List.range k).filter q) := by
  intro k
  induction k with
  | zero => exact List.Perm.refl _
  | succ k ih =>
    rw [insR, List.range_succ, List.filter_append]
    cases h : q k
    · simp [h]; exact ih
    · have : [k].filter q = [k] := by simp [h]
      rw [this]
      exact (insAt_perm nm _ k).trans (List.Perm.append_right _ ih)
theorem insR_mem {nm : Nat → List UInt8} {q : Nat → Bool} {k x : Nat} (h : x ∈ insR nm q k) : x < k ∧ q x = true := by
  have := (insR_perm nm q k).mem_iff.1 h
  rw [List.mem_filter, List.mem_range] at this
  exact this
theorem dropWhile_head {p : Nat → Bool} {l : List Nat} {y : Nat} {t : List Nat} (h : l.dropWhile p = y :: t) : p y = false := by
  induction l with
  | nil => cases h
  | cons a l ih =>
    rw [List.dropWhile_cons] at h
    split at h
    · exact ih h
    · rename_i hn
      simp only [List.cons.injEq] at h
      rw [← h.1]; simpa using hn
theorem mem_takeWhile_of {p : Nat → Bool} {l : List Nat} {y : Nat} (h : y ∈ l.takeWhile p) : p y = true := by
  induction l with
  | nil => cases h
  | cons a l ih =>
    rw [List.takeWhile_cons] at h
    split at h
    · rcases List.mem_cons.1 h with rfl | h
      · assumption
      · exact ih h
    · cases h
theorem insAt_sorted {nm : Nat → List UInt8} {l : List Nat} {i : Nat} (hl : l.Pairwise fun x y => ltN nm x y = true) (hi : ∀ x ∈ l, x < i) : (insAt nm l i).Pairwise fun x y => ltN nm x y = true := by
  unfold insAt
  have h := List.takeWhile_append_dropWhile (p := fun j => decide (nm j ≤ nm i)) (l := l)
  generalize hA : l.takeWhile (fun j => decide (nm j ≤ nm i)) = A at *
  generalize hB : l.dropWhile (fun j => decide (nm j ≤ nm i)) = B at *
  rw [← h, List.pairwise_append] at hl
  obtain ⟨h1, h2, h3⟩ := hl
  have hAi : ∀ a ∈ A, ltN nm a i = true := fun a ha => by
    have h4 := mem_takeWhile_of (p := fun j => decide (nm j ≤ nm i)) (l := l) (by rw [hA]; exact ha)
    have h5 : a < i := hi a (by rw [← h]; exact List.mem_append_left _ ha)
    have h6 : nm a ≤ nm i := by simpa using h4
    rw [ltN_iff]
    rcases List.le_iff_lt_or_eq.1 h6 with h7 | h7
    · exact .inl h7
    · exact .inr ⟨h7, h5⟩
  have hiB : ∀ b ∈ B, ltN nm i b = true := fun b hb => by
    cases B with
    | nil => cases hb
    | cons y t =>
      have h4 := dropWhile_head hB
      have h5 : nm i < nm y := by
        have : ¬ nm y ≤ nm i := by simpa using h4
        exact List.not_le.1 this
      have h6 : ltN nm i y = true := ltN_iff.2 (.inl h5)
      rcases List.mem_cons.1 hb with rfl | hb
      · exact h6
      · exact ltN_trans h6 ((List.pairwise_cons.1 h2).1 b hb)
  rw [List.pairwise_append, List.pairwise_cons]
  refine ⟨h1, ⟨hiB, h2⟩, fun a ha b hb => ?_⟩
  rcases List.mem_cons.1 hb with rfl | hb
  · exact hAi a ha
  · exact h3 a ha b hb
theorem insR_sorted (nm : Nat → List UInt8) (q : Nat → Bool) : ∀ k, (insR nm q k).Pairwise fun x y => ltN nm x y = true := by
  intro k
  induction k with
  | zero => exact List.Pairwise.nil
  | succ k ih =>
    rw [insR]
    cases h : q k
    · exact ih
    · exact insAt_sorted ih fun x hx => (insR_mem hx).1
/-- a list in this order that has the same members is the same -/
theorem ins_unique {nm : Nat → List UInt8} {l M : List Nat} (hp : M.Perm l) (hl : l.Pairwise fun x y => ltN nm x y = true) (hM : M.Pairwise fun x y => (!ltN nm y x) = true) : M = l := by
  refine List.Perm.eq_of_pairwise (le := fun x y => (!ltN nm y x) = true) ?_ hM (hl.imp fun h => by rw [ltN_asymm h]; rfl) hp
  intro a b _ _ h1 h2
  simp only [Bool.not_eq_true'] at h1 h2
  exact ltN_total h2 h1
end Go.Proofs.YtanipbpphbkmcaaGreatDoor
