/-
  A word of a range read as the document does, in plain words: the first of its signs that stands ahead.
-/
import Derived.Test.YtghihopmiagcpaaGreatDoorAltP
import Derived.Test.YtghihopmiagcpaaGreatDoorRefVP
set_option autoImplicit false
set_option relaxedAutoImplicit false
set_option linter.unusedVariables false
set_option linter.unusedSimpArgs false
namespace Go.Proofs.YtghihopmiagcpaaGreatDoor

def sgs : List (List UInt8) := [[60, 61], [62, 61], [60], [62], [61], [94], [126]]
def refSign (s : List UInt8) : List UInt8 := (sgs.find? fun g => g.isPrefixOf s).getD []
noncomputable def refWord (s : ByteArray) : Option Rk :=
  if s = ⟨#[42]⟩ then some (0, lastR) else match vparse (mkB (s.data.toList.drop (refSign s.data.toList).length)) with
    | none => none
    | some v => signRk (refSign s.data.toList) v

theorem isSign_iff {c : UInt8} : signsL.contains c = true ↔ c = 60 ∨ c = 62 ∨ c = 61 ∨ c = 94 ∨ c = 126 := by
  unfold signsL
  simp [List.contains_cons]
theorem refSign_cases (s : List UInt8) : (refSign s = [60, 61] ∨ refSign s = [62, 61] ∨ refSign s = [60] ∨ refSign s = [62] ∨ refSign s = [61] ∨ refSign s = [94] ∨ refSign s = [126] ∨ refSign s = []) := by
  unfold refSign
  cases h : sgs.find? (fun g => g.isPrefixOf s) with
  | none => simp
  | some g =>
    have := List.mem_of_find?_eq_some h
    unfold sgs at this
    simp only [List.mem_cons, List.not_mem_nil, or_false] at this
    simp only [Option.getD_some]
    rcases this with h | h | h | h | h | h | h <;> simp [h]
theorem refSign_prefix (s : List UInt8) : refSign s <+: s := by
  unfold refSign
  cases h : sgs.find? (fun g => g.isPrefixOf s) with
  | none => exact List.nil_prefix
  | some g =>
    have := List.find?_some h
    exact List.isPrefixOf_iff_prefix.1 this
theorem refSign_all (s : List UInt8) : ∀ c ∈ refSign s, signsL.contains c = true := by
  intro c hc
  rcases refSign_cases s with h | h | h | h | h | h | h | h <;> rw [h] at hc <;> simp at hc
  all_goals (first | (rcases hc with rfl | rfl <;> decide) | (subst hc; decide) | skip)
theorem vparse_head {l : List UInt8} {c : UInt8} (hc : signsL.contains c = true) : vparse (mkB (c :: l)) = none :=
  vparse_no fun v hv e => by
    have e' : c :: l = v.txt.data.toList := by rw [← e]; rfl
    rw [txtL_list hv] at e'
    obtain ⟨⟨a0, a1⟩, _⟩ := verB_iff.1 (show verB v.major v.minor v.patch = true from hv)
    obtain ⟨_, hd⟩ := itoa_read a0 a1
    cases hi : (itoaB v.major).data.toList with
    | nil =>
      have := digits_of a0 a1 []
      rw [hi] at this hd
      rw [hi] at e'
      simp only [List.nil_append, List.cons.injEq] at e'
      rw [e'.1] at hc
      exact absurd hc (by decide)
    | cons d r =>
      rw [hi] at e' hd
      simp only [List.cons_append, List.cons.injEq] at e'
      rw [← e'.1] at hd
      simp only [List.all_cons, Bool.and_eq_true, decide_eq_true_eq] at hd
      rcases isSign_iff.1 hc with rfl | rfl | rfl | rfl | rfl <;> exact absurd hd.1 (by decide)
theorem bare_drop (s : ByteArray) : ∃ g : List UInt8, s.data.toList = g ++ (bareB s).data.toList ∧ (signB s).data.toList = g ∧ (∀ c ∈ g, signsL.contains c = true) ∧ (∀ c r, (bareB s).data.toList = c :: r → signsL.contains c = false) := by
  have hb : (bareB s).data.toList = s.data.toList.dropWhile (fun c => signsL.contains c) := rfl
  refine ⟨s.data.toList.takeWhile (fun c => signsL.contains c), ?_, ?_, ?_, ?_⟩
  · rw [hb, List.takeWhile_append_dropWhile]
  · have e : (signB s).data.toList = s.data.toList.take (s.size - (bareB s).size) := by unfold signB; rw [Lib.extract_from_zero]
    rw [e, size_data s, size_data (bareB s), hb]
    have h2 := List.takeWhile_append_dropWhile (p := fun c => signsL.contains c) (l := s.data.toList)
    have h3 := congrArg List.length h2
    rw [List.length_append] at h3
    conv => lhs; rw [← h2]
    rw [List.take_append_of_le_length (by rw [h2]; omega), List.take_of_length_le (by rw [h2]; omega)]
  · intro c hc
    exact List.all_eq_true.1 (List.all_takeWhile (p := fun c => signsL.contains c) (l := s.data.toList)) c hc
  · intro c r h
    rw [hb] at h
    have := List.head?_dropWhile_not (fun c => signsL.contains c) s.data.toList
    rw [h] at this
    simpa using this
theorem sign_found {g r : List UInt8} (hr : ∀ c t, r = c :: t → signsL.contains c = false) (hg : g ∈ sgs) : refSign (g ++ r) = g := by
  have key : ∀ c t, r = c :: t → c ≠ 61 := fun c t h e => by have := hr c t h; rw [e] at this; exact absurd this (by decide)
  unfold sgs at hg
  simp only [List.mem_cons, List.not_mem_nil, or_false] at hg
  unfold refSign sgs
  rcases hg with rfl | rfl | rfl | rfl | rfl | rfl | rfl
  · simp [List.find?, List.isPrefixOf]
  · simp [List.find?, List.isPrefixOf]
  all_goals
    cases r with
    | nil => simp [List.find?, List.isPrefixOf]
    | cons c t =>
      have h1 : (61 == c) = false := by simp; exact fun e => key c t rfl e.symm
      simp [List.find?, List.isPrefixOf, h1]
theorem sign_mem {g : List UInt8} {v : Ver} (hg : g ≠ []) {x : Rk} (h : signRk g v = some x) : g ∈ sgs := by
  unfold signRk at h
  unfold sgs
  repeat' split at h
  all_goals (first | cases h | skip)
  all_goals simp_all
theorem refWord_word (s : ByteArray) : refWord s = wordF s := by
  unfold refWord wordF
  by_cases h0 : s = ⟨#[42]⟩
  · rw [if_pos h0, if_pos h0]
  · rw [if_neg h0, if_neg h0]
    obtain ⟨g, e1, e2, e3, e4⟩ := bare_drop s
    rw [e2, e1]
    generalize hr : (bareB s).data.toList = r at *
    have hb : bareB s = mkB r := by rw [← hr]; exact (mkB_self _).symm
    rw [hb]
    obtain ⟨q, hq⟩ := refSign_prefix (g ++ r)
    have hall := refSign_all (g ++ r)
    by_cases hl : (refSign (g ++ r)).length < g.length
    · -- a sign stands behind it yet
      have hpre : refSign (g ++ r) <+: g := by
        have h1 : refSign (g ++ r) <+: g ++ r := ⟨q, hq⟩
        exact List.prefix_of_prefix_length_le h1 (List.prefix_append g r) (by omega)
      obtain ⟨t, ht⟩ := hpre
      have hd : (g ++ r).drop (refSign (g ++ r)).length = t ++ r := by
        conv => lhs; rw [show g ++ r = refSign (g ++ r) ++ (t ++ r) from by rw [← List.append_assoc, ht]]
        have : refSign (refSign (g ++ r) ++ (t ++ r)) = refSign (g ++ r) := by rw [← List.append_assoc, ht]
        rw [this, List.drop_left]
      rw [hd]
      cases t with
      | nil => rw [List.append_nil] at ht; rw [ht] at hl; omega
      | cons c t =>
        have hc : signsL.contains c = true := e3 c (by rw [← ht]; simp)
        rw [List.cons_append, vparse_head hc]
        cases hv : vparse (mkB r) with
        | none => rfl
        | some v =>
          simp only
          cases hs : signRk g v with
          | none => rfl
          | some x =>
            have hg : g ≠ [] := fun e => by rw [e] at hl; simp at hl
            rw [sign_found e4 (sign_mem hg hs)] at hl
            omega
    · have hle : (refSign (g ++ r)).length ≤ g.length := by
        refine Classical.byContradiction fun hgt => ?_
        have h1 : g <+: refSign (g ++ r) := List.prefix_of_prefix_length_le (List.prefix_append g r) ⟨q, hq⟩ (by omega)
        obtain ⟨t, ht⟩ := h1
        cases t with
        | nil => rw [List.append_nil] at ht; rw [← ht] at hgt; omega
        | cons c t =>
          have h2 : r = c :: (t ++ q) := by
            rw [← ht, List.append_assoc] at hq
            exact (List.append_cancel_left hq).symm
          have h3 := e4 c _ h2
          rw [hall c (by rw [← ht]; simp)] at h3
          cases h3
      have heq : refSign (g ++ r) = g := by
        have h1 : refSign (g ++ r) <+: g := List.prefix_of_prefix_length_le ⟨q, hq⟩ (List.prefix_append g r) hle
        exact h1.eq_of_length (by omega)
      rw [heq, List.drop_left]
      cases vparse (mkB r) with
      | none => rfl
      | some v => rfl
end Go.Proofs.YtghihopmiagcpaaGreatDoor
