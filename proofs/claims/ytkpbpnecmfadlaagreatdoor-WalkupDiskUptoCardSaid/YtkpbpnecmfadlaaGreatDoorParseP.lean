/-
  A path's text cut at its steps: the path again.
-/
import Derived.Test.YtkpbpnecmfadlaaGreatDoorPathP
import Derived.Lib.SplitLaws
set_option autoImplicit false
set_option relaxedAutoImplicit false
set_option linter.unusedVariables false
set_option linter.unusedSimpArgs false
namespace Go.Proofs.YtkpbpnecmfadlaaGreatDoor

theorem step_cons : stepB.data.toList = 47 :: [109, 111, 100, 117, 108, 101, 115, 47] := by decide +kernel
theorem index_none {l : List UInt8} (h : ∀ b ∈ l, (b != 47) = true) : Lib.index l stepB.data.toList = -1 := by
  rw [step_cons]
  induction l with
  | nil => rfl
  | cons b l ih =>
    have hb : (47 == b) = false := by have := h b (by simp); simp at this ⊢; exact fun e => this e.symm
    unfold Lib.index
    rw [List.isPrefixOf, hb, Bool.false_and, ih fun c hc => h c (by simp [hc])]
    rfl
theorem index_at {l r : List UInt8} (h : ∀ b ∈ l, (b != 47) = true) : Lib.index (l ++ (stepB.data.toList ++ r)) stepB.data.toList = (l.length : Int) := by
  induction l with
  | nil =>
    have hp : stepB.data.toList.isPrefixOf (stepB.data.toList ++ r) = true := List.isPrefixOf_iff_prefix.2 (List.prefix_append _ _)
    rw [List.nil_append]
    generalize hs : stepB.data.toList = sl at *
    cases sl with
    | nil => rw [step_cons] at hs; cases hs
    | cons c sl =>
      rw [List.cons_append] at hp ⊢
      unfold Lib.index
      rw [hp]
      rfl
  | cons b l ih =>
    have hb : (47 == b) = false := by have := h b (by simp); simp at this ⊢; exact fun e => this e.symm
    have ih' := ih fun c hc => h c (by simp [hc])
    have hp : stepB.data.toList.isPrefixOf (b :: (l ++ (stepB.data.toList ++ r))) = false := by
      conv => lhs; arg 1; rw [step_cons]
      rw [List.isPrefixOf, hb, Bool.false_and]
    rw [List.cons_append]
    unfold Lib.index
    rw [hp, ih']
    have hne : ((l.length : Int) == -1) = false := by simp
    rw [hne]
    simp
theorem split_names : ∀ (t : List ByteArray) (a s : ByteArray), nameB a = true → t.all nameB = true → s.data.toList = a.data.toList ++ joined t → Lib.splitB stepB 0 (Lib.countB s stepB) s = a :: t := by
  intro t
  induction t with
  | nil =>
    intro a s ha _ hs
    rw [joined, List.append_nil] at hs
    have e : s = a := ByteArray.ext (Array.ext' hs)
    subst e
    have hi : Lib.indexB s stepB = -1 := index_none (nameL_slash ha)
    rw [Lib.countB_miss s stepB hi, Lib.splitB_zero]
  | cons b t ih =>
    intro a s ha hb hs
    rw [List.all_cons, Bool.and_eq_true] at hb
    rw [joined, List.append_assoc] at hs
    have hi : Lib.indexB s stepB = (a.data.toList.length : Int) := by
      show Lib.index s.data.toList stepB.data.toList = _
      rw [hs]
      exact index_at (nameL_slash ha)
    have hsz : stepB.size = 9 := by decide +kernel
    rw [Lib.countB_hit s stepB a.data.toList.length (by rw [hsz]; omega) hi, Nat.add_comm 1, Lib.splitB_hit stepB 0 _ s _ hi]
    have e1 : s.extract 0 (a.data.toList.length + 0) = a := by
      apply ByteArray.ext
      apply Array.ext'
      rw [Lib.extract_from_zero, hs, Nat.add_zero, List.take_left]
    have e2 : (s.extract (a.data.toList.length + stepB.size) s.size).data.toList = b.data.toList ++ joined t := by
      rw [Lib.extract_to_end, hs, hsz, ← List.append_assoc, show a.data.toList.length + 9 = (a.data.toList ++ stepB.data.toList).length by rw [List.length_append, step_cons]; rfl, List.drop_left]
    rw [e1, ih b _ hb.1 hb.2 e2]
/-- what a text is read as -/
noncomputable def parseR (s : ByteArray) : List ByteArray × Bool := if s = ⟨#[47]⟩ then ([], true) else match pathOf s with | none => ([], false) | some p => (p, true)
/-- the rest of a text, behind its first step -/
theorem pathOf_prefix {s : ByteArray} {p : List ByteArray} (h : pathOf s = some p) : stepB.data.toList.isPrefixOf s.data.toList = true := by
  obtain ⟨h0, _, h2⟩ := pathOf_spec h
  cases p with
  | nil => exact absurd rfl h0
  | cons a t =>
    rw [← h2, joined, List.append_assoc]
    exact List.isPrefixOf_iff_prefix.2 (List.prefix_append _ _)
theorem pathOf_noprefix {s : ByteArray} (h : stepB.data.toList.isPrefixOf s.data.toList = false) : pathOf s = none := by
  rcases hp : pathOf s with _ | p
  · rfl
  · rw [pathOf_prefix hp] at h; cases h
/-- the cut text's own text is the text, or it is none -/
theorem pathOf_split {s r : ByteArray} (h : s.data.toList = stepB.data.toList ++ r.data.toList) :
    (textB (Lib.splitB stepB 0 (Lib.countB r stepB) r) = s → pathOf s = some (Lib.splitB stepB 0 (Lib.countB r stepB) r)) ∧ (textB (Lib.splitB stepB 0 (Lib.countB r stepB) r) ≠ s → pathOf s = none) := by
  have hne : Lib.splitB stepB 0 (Lib.countB r stepB) r ≠ [] := by
    have := Lib.splitB_all stepB (by decide +kernel) 0 _ r rfl
    intro e
    rw [e] at this
    simp at this
  have hs0 : s ≠ ⟨#[]⟩ := by
    intro e
    rw [e, step_cons] at h
    cases h
  constructor
  · intro e
    unfold textB at e
    rw [if_neg hne] at e
    split at e
    · rename_i hall
      exact pathOf_some hne hall (by rw [← e])
    · exact absurd e.symm hs0
  · intro e
    rcases hp : pathOf s with _ | p
    · rfl
    · exfalso
      have ht := textB_pathOf hp
      obtain ⟨h0, h1, h2⟩ := pathOf_spec hp
      cases p with
      | nil => exact h0 rfl
      | cons a t =>
        rw [List.all_cons, Bool.and_eq_true] at h1
        rw [joined, List.append_assoc, h] at h2
        have h3 := List.append_cancel_left h2
        rw [split_names t a r h1.1 h1.2 h3.symm] at e
        exact e ht
end Go.Proofs.YtkpbpnecmfadlaaGreatDoor
