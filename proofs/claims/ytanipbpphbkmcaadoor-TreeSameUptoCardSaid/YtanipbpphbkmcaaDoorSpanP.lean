/-
  Sets of versions in plain words: their texts.
-/
import Derived.Test.YtanipbpphbkmcaaDoorVersP
import Derived.Lib.Join
set_option autoImplicit false
set_option relaxedAutoImplicit false
set_option linter.unusedVariables false
namespace Go.Proofs.YtanipbpphbkmcaaDoor
open Go

def sepB : ByteArray := ⟨#[32, 124, 124, 32]⟩
def starB : ByteArray := ⟨#[42]⟩
def leB : ByteArray := ⟨#[60, 61]⟩
def geB : ByteArray := ⟨#[62, 61]⟩
def andB : ByteArray := ⟨#[32, 60, 61]⟩
def noneB : ByteArray := ⟨#[60, 48, 46, 48, 46, 48]⟩
def spaceB : ByteArray := ⟨#[32]⟩
def Ver.text (v : Ver) : ByteArray := verText v.major v.minor v.patch
def spanText (s : Spn) : ByteArray :=
  if s.lo.rank = s.hi.rank then s.lo.text
  else if s.lo.rank = 0 then (if s.hi.rank = 999999999 then starB else leB ++ s.hi.text)
  else if s.hi.rank = 999999999 then geB ++ s.lo.text
  else geB ++ s.lo.text ++ andB ++ s.hi.text
def joinB (l : List ByteArray) : ByteArray := ⟨(Lib.join (l.map (·.data.toList)) sepB.data.toList).toArray⟩
def spansText (l : List Spn) : ByteArray := if spansB l then (if l = [] then noneB else joinB (l.map spanText)) else ⟨#[]⟩

theorem join_snoc (xs : List (List UInt8)) (y sep : List UInt8) (h : xs ≠ []) : Lib.join (xs ++ [y]) sep = Lib.join xs sep ++ sep ++ y := by
  cases xs with
  | nil => exact absurd rfl h
  | cons x r =>
    rw [List.cons_append, Lib.join_cons, Lib.join_cons]
    simp [Lib.joinTail, List.append_assoc]
theorem joinB_one (s : ByteArray) : joinB [s] = s := by
  unfold joinB
  rw [List.map_cons, List.map_nil, Lib.join_one]
theorem joinB_snoc {l : List ByteArray} {s : ByteArray} (h : l ≠ []) : joinB (l ++ [s]) = joinB l ++ sepB ++ s := by
  unfold joinB
  rw [List.map_append, List.map_cons, List.map_nil, join_snoc _ _ _ (by simpa using h)]
  apply ByteArray.ext
  simp [ByteArray.data_append]

theorem verText_le (a b c : Int) : (verText a b c).size ≤ 11 := by
  have key : ∀ n : Int, 0 ≤ n → n ≤ 999 → (itoaB n).size ≤ 3 := by
    intro n h0 h1
    have : n.toNat < 1000 := by omega
    have e : itoaB n = ⟨(Lib.decDigits n.toNat).toArray⟩ := by unfold itoaB Lib.itoa; rw [if_neg (by omega)]
    rw [e]
    show (Lib.decDigits n.toNat).toArray.size ≤ 3
    simp only [List.size_toArray]
    have hd : ∀ k : Fin 1000, (Lib.decDigits k.val).length ≤ 3 := by decide +kernel
    exact hd ⟨n.toNat, this⟩
  unfold verText
  cases h : verB a b c
  · simp only [Bool.false_eq_true, if_false]
    show 0 ≤ 11; omega
  · have h' := verB_iff.1 h
    have k1 := key a (by omega) (by omega)
    have k2 := key b (by omega) (by omega)
    have k3 := key c (by omega) (by omega)
    have z : dotB.size = 1 := rfl
    simp only [if_true, ByteArray.size_append]
    omega
theorem spanText_le (s : Spn) : (spanText s).size ≤ 27 := by
  have h1 : s.lo.text.size ≤ 11 := verText_le _ _ _
  have h2 : s.hi.text.size ≤ 11 := verText_le _ _ _
  have z1 : leB.size = 2 := rfl
  have z2 : geB.size = 2 := rfl
  have z3 : andB.size = 3 := rfl
  have z4 : starB.size = 1 := rfl
  unfold spanText
  repeat' split
  all_goals (try simp only [ByteArray.size_append])
  all_goals omega
theorem joinB_le (l : List ByteArray) (h : ∀ s ∈ l, s.size ≤ 27) : (joinB l).size ≤ 31 * l.length := by
  have key : ∀ l : List ByteArray, (∀ s ∈ l, s.size ≤ 27) → (Lib.joinTail sepB.data.toList (l.map (·.data.toList))).length ≤ 31 * l.length := by
    intro l
    induction l with
    | nil => intro _; exact Nat.le_refl _
    | cons s t ih =>
      intro h
      have h1 : s.data.toList.length ≤ 27 := by have := h s (List.mem_cons_self ..); rw [Array.length_toList]; exact this
      have h2 := ih (fun x hx => h x (by simp [hx]))
      have z : sepB.data.toList.length = 4 := rfl
      simp only [Lib.joinTail, List.map_cons, List.flatten_cons, List.length_append, List.length_cons] at *
      omega
  cases l with
  | nil => exact Nat.le_refl _
  | cons s t =>
    unfold joinB
    rw [List.map_cons, Lib.join_cons]
    have h1 : s.data.toList.length ≤ 27 := by have := h s (List.mem_cons_self ..); rw [Array.length_toList]; exact this
    have h2 := key t (fun x hx => h x (by simp [hx]))
    simp only [ByteArray.size, List.size_toArray, List.length_append, List.length_cons]
    omega
theorem joinB_spans_le (l : List Spn) : (joinB (l.map spanText)).size ≤ 31 * l.length := by
  have := joinB_le (l.map spanText) (fun s hs => by
    obtain ⟨x, _, rfl⟩ := List.mem_map.1 hs
    exact spanText_le x)
  simpa using this
theorem spansText_le (l : List Spn) : (spansText l).size ≤ 2000 := by
  unfold spansText
  cases h : spansB l
  · simp only [Bool.false_eq_true, if_false]
    show 0 ≤ 2000; omega
  · have hl : l.length ≤ 64 := by simp [spansB] at h; exact h.1
    simp only [if_true]
    split
    · show 6 ≤ 2000; omega
    · have := joinB_spans_le l; omega

/-- what may be, span by span -/
theorem spanGo_mem : ∀ {l : List Spn} {le : Int}, spanGo le l = true → ∀ s ∈ l, s.lo.ok = true ∧ s.hi.ok = true ∧ s.lo.rank ≤ s.hi.rank := by
  intro l
  induction l with
  | nil => intro le _ s hs; cases hs
  | cons x l ih =>
    intro le h s hs
    simp only [spanGo, Bool.and_eq_true, decide_eq_true_eq] at h
    rcases List.mem_cons.1 hs with rfl | hs
    · exact ⟨h.1.1.1.1, h.1.1.1.2, h.1.2⟩
    · exact ih h.2 s hs
theorem spansB_mem {l : List Spn} (h : spansB l = true) : ∀ s ∈ l, s.lo.ok = true ∧ s.hi.ok = true ∧ s.lo.rank ≤ s.hi.rank := by
  simp only [spansB, Bool.and_eq_true] at h
  exact spanGo_mem h.2
theorem Ver.rank_ok {v : Ver} (h : v.ok = true) : v.rank = rankI v.major v.minor v.patch := by
  unfold Ver.rank rankR
  rw [if_pos (show verB v.major v.minor v.patch = true from h)]
end Go.Proofs.YtanipbpphbkmcaaDoor
