/-
  A path's text read name by name, in plain words.
-/
import Derived.Test.YtkpbpnecmfadlaaGreatDoorParseP
set_option autoImplicit false
set_option relaxedAutoImplicit false
set_option linter.unusedVariables false
set_option linter.unusedSimpArgs false
namespace Go.Proofs.YtkpbpnecmfadlaaGreatDoor

/-- the names that the rest of a text is, if it is names behind steps -/
noncomputable def restOf (r : List UInt8) : Option (List ByteArray) :=
  @dite _ (∃ p : List ByteArray, p.all nameB = true ∧ joined p = r) (Classical.propDecidable _) (fun h => some h.choose) (fun _ => none)
theorem restOf_some {r : List UInt8} {p : List ByteArray} (h1 : p.all nameB = true) (h2 : joined p = r) : restOf r = some p := by
  have h : ∃ p : List ByteArray, p.all nameB = true ∧ joined p = r := ⟨p, h1, h2⟩
  unfold restOf
  rw [dif_pos h]
  have hc := h.choose_spec
  exact congrArg some (joined_inj hc.1 h1 (hc.2.trans h2.symm))
theorem restOf_none {r : List UInt8} (h : ∀ p : List ByteArray, p.all nameB = true → joined p ≠ r) : restOf r = none := by
  unfold restOf
  rw [dif_neg]
  rintro ⟨p, h1, h2⟩
  exact h p h1 h2
theorem restOf_spec {r : List UInt8} {p : List ByteArray} (h : restOf r = some p) : p.all nameB = true ∧ joined p = r := by
  by_cases e : ∃ p : List ByteArray, p.all nameB = true ∧ joined p = r
  · obtain ⟨q, h1, h2⟩ := e
    rw [restOf_some h1 h2] at h
    cases h
    exact ⟨h1, h2⟩
  · rw [restOf_none fun q h1 h2 => e ⟨q, h1, h2⟩] at h
    cases h
theorem restOf_nil : restOf [] = some [] := restOf_some rfl rfl
theorem restOf_noprefix {r : List UInt8} (h0 : r ≠ []) (h : stepB.data.toList.isPrefixOf r = false) : restOf r = none := by
  refine restOf_none fun p _ h2 => ?_
  cases p with
  | nil => exact h0 h2.symm
  | cons a t =>
    rw [← h2, joined, List.append_assoc, List.isPrefixOf_iff_prefix.2 (List.prefix_append _ _)] at h
    cases h
/-- what a name behind a step is: all up to the next slash -/
theorem rest_head {l q : List UInt8} (hl : ∀ b ∈ l, (b != 47) = true) (hq : q = [] ∨ ∃ q', q = 47 :: q') {a : ByteArray} {t : List ByteArray} (ha : nameB a = true) (h : joined (a :: t) = stepB.data.toList ++ (l ++ q)) :
    a.data.toList = l ∧ joined t = q := by
  rw [joined, List.append_assoc] at h
  have h1 := List.append_cancel_left h
  have e1 := takeWhile_name (nameL_slash ha) (joined_head t)
  have e2 := takeWhile_name hl hq
  rw [h1, e2] at e1
  rw [e1] at h1
  exact ⟨e1.symm, List.append_cancel_left h1⟩
theorem restOf_bad {l q : List UInt8} (hl : ∀ b ∈ l, (b != 47) = true) (hq : q = [] ∨ ∃ q', q = 47 :: q') (hn : nameB ⟨l.toArray⟩ = false) : restOf (stepB.data.toList ++ (l ++ q)) = none := by
  refine restOf_none fun p h1 h2 => ?_
  cases p with
  | nil => rw [step_cons] at h2; cases h2
  | cons a t =>
    rw [List.all_cons, Bool.and_eq_true] at h1
    obtain ⟨e1, _⟩ := rest_head hl hq h1.1 h2
    have e : a = ⟨l.toArray⟩ := ByteArray.ext (Array.ext' e1)
    rw [← e, h1.1] at hn
    cases hn
theorem restOf_step {l q : List UInt8} (hl : ∀ b ∈ l, (b != 47) = true) (hq : q = [] ∨ ∃ q', q = 47 :: q') (hn : nameB ⟨l.toArray⟩ = true) :
    restOf (stepB.data.toList ++ (l ++ q)) = (restOf q).map (⟨l.toArray⟩ :: ·) := by
  rcases hr : restOf q with _ | p
  · refine restOf_none fun p h1 h2 => ?_
    cases p with
    | nil => rw [step_cons] at h2; cases h2
    | cons a t =>
      rw [List.all_cons, Bool.and_eq_true] at h1
      obtain ⟨_, e2⟩ := rest_head hl hq h1.1 h2
      rw [restOf_some h1.2 e2] at hr
      cases hr
  · obtain ⟨h1, h2⟩ := restOf_spec hr
    refine restOf_some (by rw [List.all_cons, hn, h1]; rfl) ?_
    rw [joined, h2, List.append_assoc]
theorem pathOf_rest (s : ByteArray) : pathOf s = match restOf s.data.toList with | none => none | some [] => none | some p => some p := by
  rcases hr : restOf s.data.toList with _ | p
  · exact pathOf_none fun p _ h1 h2 => by rw [restOf_some h1 h2] at hr; cases hr
  · obtain ⟨h1, h2⟩ := restOf_spec hr
    cases p with
    | nil =>
      refine pathOf_none fun p h0 h1' h2' => ?_
      exact h0 (joined_inj h1' h1 (h2'.trans h2.symm))
    | cons a t => exact pathOf_some (by simp) h1 h2
end Go.Proofs.YtkpbpnecmfadlaaGreatDoor
