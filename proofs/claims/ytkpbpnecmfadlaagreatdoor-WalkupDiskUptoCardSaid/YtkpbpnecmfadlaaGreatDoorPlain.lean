/-
  Small plain facts: bytes compared, lists cut.
-/
import Derived.Laws.Strings
import Derived.WalkKit
namespace Go.Proofs.YtkpbpnecmfadlaaGreatDoor

theorem bytes_inj {a b : ByteArray} (h : a.toList = b.toList) : a = b := by
  rw [Go.ByteArray.toList_eq, Go.ByteArray.toList_eq] at h
  obtain ⟨⟨l⟩⟩ := a
  obtain ⟨⟨k⟩⟩ := b
  have : l = k := h
  rw [this]
theorem bytes_beq (a b : ByteArray) : (a.toList == b.toList) = decide (a = b) := by
  by_cases h : a = b
  · subst h; simp
  · have : ¬ a.toList = b.toList := fun e => h (bytes_inj e)
    simp [h, this]
theorem bytes_ne {a b : ByteArray} (h : (!a.toList == b.toList) = true) : a ≠ b := by
  rintro rfl
  simp at h
theorem bytes_eq {a b : ByteArray} (h : (!a.toList == b.toList) = false) : a = b := by
  apply bytes_inj; simpa using h

theorem take_next {α : Type} {xs ys : List α} {k : Nat} (h : xs.take k = ys.take k) (hx : k < xs.length) (hy : k < ys.length) (he : xs[k] = ys[k]) : xs.take (k + 1) = ys.take (k + 1) := by
  rw [List.take_succ_eq_append_getElem hx, List.take_succ_eq_append_getElem hy, h, he]
theorem ne_at {α : Type} {xs ys : List α} {k : Nat} (hx : k < xs.length) (hy : k < ys.length) (he : xs[k] ≠ ys[k]) : xs ≠ ys := by
  rintro rfl
  exact he rfl
theorem eq_of_takes {α : Type} {xs ys : List α} {k : Nat} (h : xs.take k = ys.take k) (hx : xs.length ≤ k) (hy : ys.length ≤ k) : xs = ys := by
  rwa [List.take_of_length_le hx, List.take_of_length_le hy] at h
theorem ret_bool {a b : Bool} (h : a = b) : Ending.returned (.bool a) = .returned (.bool b) := by rw [h]
theorem ret_int {k : IntKind} {a b : Int} (h : a = b) : Ending.returned (.int k a) = .returned (.int k b) := by rw [h]
theorem ret_str {a b : ByteArray} (h : a = b) : Ending.returned (.string a) = .returned (.string b) := by rw [h]

/-- the first place from k on at which p holds; -1: none -/
def idxFrom {α : Type} (p : α → Bool) : Nat → List α → Int
  | _, [] => -1
  | k, x :: l => if p x then (k : Int) else idxFrom p (k + 1) l
theorem idxFrom_hit {α : Type} {p : α → Bool} {l : List α} {k : Nat} (h : k < l.length) (hp : p l[k] = true) : idxFrom p k (l.drop k) = (k : Int) := by
  rw [List.drop_eq_getElem_cons h, idxFrom, if_pos hp]
theorem idxFrom_miss {α : Type} {p : α → Bool} {l : List α} {k : Nat} (h : k < l.length) (hp : p l[k] = false) : idxFrom p k (l.drop k) = idxFrom p (k + 1) (l.drop (k + 1)) := by
  rw [List.drop_eq_getElem_cons h, idxFrom, if_neg (by simp [hp])]
theorem idxFrom_end {α : Type} {p : α → Bool} {l : List α} {k : Nat} (h : l.length ≤ k) : idxFrom p k (l.drop k) = -1 := by
  rw [List.drop_eq_nil_of_le h, idxFrom]
theorem idxFrom_any {α : Type} (p : α → Bool) (l : List α) : ∀ k, decide (0 ≤ idxFrom p k l) = l.any p := by
  induction l with
  | nil => intro k; simp [idxFrom]
  | cons x l ih =>
    intro k
    rw [idxFrom, List.any_cons]
    by_cases h : p x = true
    · rw [if_pos h, h]; simp
    · rw [if_neg h, ih]; simp [h]
theorem idxFrom_lt {α : Type} (p : α → Bool) (l : List α) : ∀ k, idxFrom p k l < (k : Int) + l.length ∧ (idxFrom p k l = -1 ∨ (k : Int) ≤ idxFrom p k l) := by
  induction l with
  | nil => intro k; simp [idxFrom]; omega
  | cons x l ih =>
    intro k
    rw [idxFrom]
    have := ih (k + 1)
    by_cases h : p x = true
    · rw [if_pos h]; simp; omega
    · rw [if_neg h]; simp; omega
end Go.Proofs.YtkpbpnecmfadlaaGreatDoor
