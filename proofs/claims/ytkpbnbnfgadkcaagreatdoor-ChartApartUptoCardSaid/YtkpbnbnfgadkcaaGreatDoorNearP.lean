/-
  What a search finds; what a tree that may be has: the plain laws.
-/
import Derived.Test.YtkpbnbnfgadkcaaGreatDoorCheck
import Derived.Lib.Hide
set_option autoImplicit false
set_option relaxedAutoImplicit false
set_option linter.unusedVariables false
set_option linter.unusedSimpArgs false
namespace Go.Proofs.YtkpbnbnfgadkcaaGreatDoor
open Go.Rows Go.RowKit Go.Shelf Go.Sort

theorem firstGo_sound (q : Dir → Bool) : ∀ (t : List Dir) (k j : Nat), firstGo q t k = (j : Int) → ∃ i, ∃ h : i < t.length, j = k + i ∧ q t[i] = true := by
  intro t
  induction t with
  | nil => intro k j h; rw [firstGo] at h; omega
  | cons d t ih =>
    intro k j h
    rw [firstGo] at h
    cases hq : q d
    · rw [hq] at h
      obtain ⟨i, hi, e, hqi⟩ := ih (k + 1) j h
      exact ⟨i + 1, by simpa using hi, by omega, by simpa using hqi⟩
    · rw [hq] at h
      refine ⟨0, by simp, ?_, by simpa using hq⟩
      have : (k : Int) = (j : Int) := h
      omega
theorem findI_sound {t : List Dir} {p : List ByteArray} {j : Nat} (h : findI t p = (j : Int)) : ∃ hj : j < t.length, t[j].path = p := by
  unfold findI firstI at h
  obtain ⟨i, hi, e, hq⟩ := firstGo_sound _ t 0 j h
  obtain rfl : i = j := by omega
  refine ⟨hi, ?_⟩
  by_cases e : t[i].path = p
  · exact e
  · rw [eqB_false e] at hq; cases hq
theorem findI_none {t : List Dir} {p : List ByteArray} (h : findI t p < 0) {d : Dir} (hd : d ∈ t) : d.path ≠ p := by
  intro e
  unfold findI at h
  rcases firstI_lt (fun d => eqB d.path p) t with h' | ⟨j, h', _⟩
  · have := List.any_eq_false.1 h'.2 d hd
    rw [eqB_true e] at this
    exact this rfl
  · omega
theorem okGo_stands (t : List Dir) : ∀ (l : List Dir) (k : Nat), okGo t l k = true → ∀ j (h : j < l.length), k + j ≠ 0 → standsB t l[j] (k + j) = true := by
  intro l
  induction l with
  | nil => intro k _ j h; simp at h
  | cons d l ih =>
    intro k hk j h h0
    rw [okGo, Bool.and_eq_true] at hk
    cases j with
    | zero =>
      have hd : decide (k = 0) = false := decide_eq_false (by omega)
      rw [hd] at hk
      exact hk.1
    | succ j =>
      have := ih (k + 1) hk.2 j (by simpa using h) (by omega)
      rw [show k + (j + 1) = k + 1 + j by omega]
      simpa using this
theorem okGo_root {t : List Dir} {d : Dir} {l : List Dir} (h : okGo t (d :: l) 0 = true) : d.path = [] := by
  rw [okGo, Bool.and_eq_true] at h
  have h1 : rootB d = true := h.1
  unfold rootB at h1
  simp only [Bool.and_eq_true, decide_eq_true_eq] at h1
  exact List.eq_nil_of_length_eq_zero h1.1
theorem checkE_ok {t : List Dir} (h : checkE t = 0) : okGo t t 0 = true := by
  unfold checkE at h
  split at h
  · exact absurd h (by decide)
  · cases hk : okGo t t 0
    · rw [hk] at h; exact absurd h (by decide)
    · rfl
theorem stands_of {t : List Dir} (h : checkE t = 0) {i : Nat} (hi : i < t.length) (h1 : 1 ≤ i) :
    t[i].path ≠ [] ∧ findI t t[i].path = (i : Int) ∧ nameB (lastN t[i].path) = true := by
  have := okGo_stands t t 0 (checkE_ok h) i hi (by omega)
  rw [Nat.zero_add] at this
  unfold standsB at this
  simp only [Bool.and_eq_true, decide_eq_true_eq] at this
  obtain ⟨a1, a2, a3, a4, a5, a6, a7, a8, a9⟩ := this
  refine ⟨fun e => a1 (by rw [e]; rfl), a5, ?_⟩
  rw [← a9]
  unfold packB at a8
  simp only [Bool.and_eq_true] at a8
  exact a8.1
theorem root_of {t : List Dir} (h : checkE t = 0) (h0 : 0 < t.length) : t[0].path = [] := by
  have := checkE_ok h
  match t, h0, this with
  | d :: l, _, h' => exact okGo_root h'
end Go.Proofs.YtkpbnbnfgadkcaaGreatDoor
