/-
  Paths' texts in plain words: a text is at most one path's.
-/
import Derived.Test.YtkpbpnecmfadlaaGreatDoorText
set_option autoImplicit false
set_option relaxedAutoImplicit false
set_option linter.unusedVariables false
set_option linter.unusedSimpArgs false
namespace Go.Proofs.YtkpbpnecmfadlaaGreatDoor

theorem nameC_slash {b : UInt8} (h : nameC b = true) : (b != 47) = true := by
  have H : ∀ b : UInt8, (!nameC b || (b != 47)) = true := all_bytes (by decide +kernel)
  have := H b
  rw [h] at this; simpa using this
theorem nameL_slash {l : List UInt8} (h : nameL l = true) : ∀ b ∈ l, (b != 47) = true := by
  cases l with
  | nil => intro b hb; cases hb
  | cons c t =>
    simp only [nameL, Bool.and_eq_true] at h
    intro b hb
    rcases List.mem_cons.1 hb with rfl | hb
    · exact nameC_slash (by unfold nameC; rw [h.1.1]; rfl)
    · exact nameC_slash (List.all_eq_true.1 h.1.2 b hb)
theorem joined_head : ∀ (t : List ByteArray), joined t = [] ∨ ∃ r, joined t = 47 :: r := by
  intro t
  cases t with
  | nil => exact .inl rfl
  | cons s t => exact .inr ⟨_, rfl⟩
theorem takeWhile_name {l r : List UInt8} (h : ∀ b ∈ l, (b != 47) = true) (hr : r = [] ∨ ∃ q, r = 47 :: q) : (l ++ r).takeWhile (· != 47) = l := by
  induction l with
  | nil =>
    rcases hr with rfl | ⟨q, rfl⟩
    · rfl
    · rfl
  | cons c l ih =>
    rw [List.cons_append, List.takeWhile_cons, if_pos (h c (by simp)), ih fun b hb => h b (by simp [hb])]
theorem joined_inj : ∀ {a b : List ByteArray}, a.all nameB = true → b.all nameB = true → joined a = joined b → a = b := by
  intro a
  induction a with
  | nil =>
    intro b _ _ h
    cases b with
    | nil => rfl
    | cons s t => cases h
  | cons s t ih =>
    intro b ha hb h
    cases b with
    | nil => cases h
    | cons u v =>
      rw [List.all_cons, Bool.and_eq_true] at ha hb
      rw [joined, joined, List.append_assoc, List.append_assoc] at h
      have h1 := List.append_cancel_left h
      have e1 := takeWhile_name (nameL_slash ha.1) (joined_head t)
      have e2 := takeWhile_name (nameL_slash hb.1) (joined_head v)
      rw [h1, e2] at e1
      rw [e1] at h1
      have h2 := List.append_cancel_left h1
      have hs : s = u := ByteArray.ext (Array.ext' e1.symm)
      rw [hs, ih ha.2 hb.2 h2]

/-- the path that a text is, if it is one that names lead through -/
noncomputable def pathOf (s : ByteArray) : Option (List ByteArray) :=
  @dite _ (∃ p : List ByteArray, p ≠ [] ∧ p.all nameB = true ∧ joined p = s.data.toList) (Classical.propDecidable _) (fun h => some h.choose) (fun _ => none)
theorem pathOf_some {s : ByteArray} {p : List ByteArray} (h0 : p ≠ []) (h1 : p.all nameB = true) (h2 : joined p = s.data.toList) : pathOf s = some p := by
  have h : ∃ p : List ByteArray, p ≠ [] ∧ p.all nameB = true ∧ joined p = s.data.toList := ⟨p, h0, h1, h2⟩
  unfold pathOf
  rw [dif_pos h]
  have hc := h.choose_spec
  exact congrArg some (joined_inj hc.2.1 h1 (hc.2.2.trans h2.symm))
theorem pathOf_none {s : ByteArray} (h : ∀ p : List ByteArray, p ≠ [] → p.all nameB = true → joined p ≠ s.data.toList) : pathOf s = none := by
  unfold pathOf
  rw [dif_neg]
  rintro ⟨p, h0, h1, h2⟩
  exact h p h0 h1 h2
theorem pathOf_spec {s : ByteArray} {p : List ByteArray} (h : pathOf s = some p) : p ≠ [] ∧ p.all nameB = true ∧ joined p = s.data.toList := by
  by_cases e : ∃ p : List ByteArray, p ≠ [] ∧ p.all nameB = true ∧ joined p = s.data.toList
  · obtain ⟨q, h0, h1, h2⟩ := e
    rw [pathOf_some h0 h1 h2] at h
    cases h
    exact ⟨h0, h1, h2⟩
  · rw [pathOf_none fun q h0 h1 h2 => e ⟨q, h0, h1, h2⟩] at h
    cases h
/-- a path's text again: the text of what a text is read as -/
theorem textB_pathOf {s : ByteArray} {p : List ByteArray} (h : pathOf s = some p) : textB p = s := by
  obtain ⟨h0, h1, h2⟩ := pathOf_spec h
  unfold textB
  rw [if_neg h0, if_pos h1]
  exact ByteArray.ext (Array.ext' h2)
end Go.Proofs.YtkpbpnecmfadlaaGreatDoor
