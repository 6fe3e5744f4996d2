/-
  What a lookup finds is the nearest; a package finds itself: the plain laws.
-/
import Derived.Test.YtanipbpphbkmcaaGreatDoorMapP
set_option autoImplicit false
set_option relaxedAutoImplicit false
set_option linter.unusedVariables false
set_option linter.unusedSimpArgs false
namespace Go.Proofs.YtanipbpphbkmcaaGreatDoor
open Go.Rows Go.RowKit Go.Shelf Go.Sort

theorem firstGo_sound (q : Dir → Bool) : ∀ (t : List Dir) (k j : Nat), firstGo q t k = (j : Int) → ∃ i, ∃ h : i < t.length, j = k + i ∧ q t[i] = true := by
  intro t
  induction t with
  | nil => intro k j h; rw [firstGo] at h; omega
  | cons d t ih =>
    intro k j h
    rw [firstGo] at h
    cases hq : q d
    · rw [hq] at h
      obtain ⟨i, hi, e, hqi⟩ := ih (k + 1) j h
      exact ⟨i + 1, by simpa using hi, by omega, by simpa using hqi⟩
    · rw [hq] at h
      refine ⟨0, by simp, ?_, by simpa using hq⟩
      have : (k : Int) = (j : Int) := h
      omega
theorem findI_sound {t : List Dir} {p : List ByteArray} {j : Nat} (h : findI t p = (j : Int)) : ∃ hj : j < t.length, t[j].path = p := by
  unfold findI firstI at h
  obtain ⟨i, hi, e, hq⟩ := firstGo_sound _ t 0 j h
  obtain rfl : i = j := by omega
  refine ⟨hi, ?_⟩
  by_cases e : t[i].path = p
  · exact e
  · rw [eqB_false e] at hq; cases hq
theorem findI_none {t : List Dir} {p : List ByteArray} (h : findI t p < 0) {d : Dir} (hd : d ∈ t) : d.path ≠ p := by
  intro e
  unfold findI at h
  rcases firstI_lt (fun d => eqB d.path p) t with h' | ⟨j, h', _⟩
  · have := List.any_eq_false.1 h'.2 d hd
    rw [eqB_true e] at this
    exact this rfl
  · omega
theorem lookDown_spec (t : List Dir) (p : List ByteArray) (s : ByteArray) : ∀ q, (lookDown t p s q = -1 ∧ ∀ k, k < q → findI t (p.take k ++ [s]) < 0) ∨
    ∃ k, k < q ∧ lookDown t p s q = findI t (p.take k ++ [s]) ∧ 0 ≤ findI t (p.take k ++ [s]) ∧ ∀ j, k < j → j < q → findI t (p.take j ++ [s]) < 0 := by
  intro q
  induction q with
  | zero => exact .inl ⟨rfl, fun k h => absurd h (Nat.not_lt_zero _)⟩
  | succ q ih =>
    unfold lookDown
    by_cases h : 0 ≤ findI t (p.take q ++ [s])
    · rw [decide_eq_true h]
      exact .inr ⟨q, Nat.lt_succ_self _, rfl, h, fun j h1 h2 => by omega⟩
    · rw [decide_eq_false h]
      rcases ih with ⟨h1, h2⟩ | ⟨k, h1, h2, h3, h4⟩
      · refine .inl ⟨h1, fun k hk => ?_⟩
        by_cases hkq : k = q
        · subst hkq; omega
        · exact h2 k (by omega)
      · refine .inr ⟨k, by omega, h2, h3, fun j hj1 hj2 => ?_⟩
        by_cases hjq : j = q
        · subst hjq; omega
        · exact h4 j hj1 (by omega)
theorem okGo_stands (t : List Dir) : ∀ (l : List Dir) (k : Nat), okGo t l k = true → ∀ j (h : j < l.length), k + j ≠ 0 → standsB t l[j] (k + j) = true := by
  intro l
  induction l with
  | nil => intro k _ j h; simp at h
  | cons d l ih =>
    intro k hk j h h0
    rw [okGo, Bool.and_eq_true] at hk
    cases j with
    | zero =>
      have hd : decide (k = 0) = false := decide_eq_false (by omega)
      rw [hd] at hk
      exact hk.1
    | succ j =>
      have := ih (k + 1) hk.2 j (by simpa using h) (by omega)
      rw [show k + (j + 1) = k + 1 + j by omega]
      simpa using this
theorem okGo_root {t : List Dir} {d : Dir} {l : List Dir} (h : okGo t (d :: l) 0 = true) : d.path = [] := by
  rw [okGo, Bool.and_eq_true] at h
  have h1 : rootB d = true := h.1
  unfold rootB at h1
  simp only [Bool.and_eq_true, decide_eq_true_eq] at h1
  exact List.eq_nil_of_length_eq_zero h1.1
theorem checkE_ok {t : List Dir} (h : checkE t = 0) : okGo t t 0 = true := by
  unfold checkE at h
  split at h
  · exact absurd h (by decide)
  · cases hk : okGo t t 0
    · rw [hk] at h; exact absurd h (by decide)
    · rfl
theorem stands_of {t : List Dir} (h : checkE t = 0) {i : Nat} (hi : i < t.length) (h1 : 1 ≤ i) :
    t[i].path ≠ [] ∧ findI t t[i].path = (i : Int) ∧ nameB (lastN t[i].path) = true := by
  have := okGo_stands t t 0 (checkE_ok h) i hi (by omega)
  rw [Nat.zero_add] at this
  unfold standsB at this
  simp only [Bool.and_eq_true, decide_eq_true_eq] at this
  obtain ⟨a1, a2, a3, a4, a5, a6, a7, a8, a9⟩ := this
  refine ⟨fun e => a1 (by rw [e]; rfl), a5, ?_⟩
  rw [← a9]
  unfold packB at a8
  simp only [Bool.and_eq_true] at a8
  exact a8.1
theorem root_of {t : List Dir} (h : checkE t = 0) (h0 : 0 < t.length) : t[0].path = [] := by
  have := checkE_ok h
  match t, h0, this with
  | d :: l, _, h' => exact okGo_root h'
/-- a path is what is ahead of its last name, and that name -/
theorem path_split {p : List ByteArray} (h : p ≠ []) : p = p.take (p.length - 1) ++ [lastN p] := by
  have hl : 0 < p.length := List.length_pos_iff.2 h
  have e : lastN p = p[p.length - 1] := by unfold lastN; rw [List.getD_eq_getElem?_getD, List.getElem?_eq_getElem (by omega)]; rfl
  rw [e]
  have := List.take_append_drop (p.length - 1) p
  rw [List.drop_eq_getElem_cons (by omega), List.drop_eq_nil_of_le (by omega)] at this
  exact this.symm
theorem lookI_at {t : List Dir} {i : Nat} (hi : i < t.length) (s : ByteArray) : lookI t (i : Int) s = bif nameB s then lookDown t t[i].path s (t[i].path.length + 1) else -1 := by
  unfold lookI
  rw [dif_pos (by omega)]
  simp only [Int.toNat_natCast]
/-- from a package directory its own name leads to itself, or to the one in its own modules -/
theorem self_plain {t : List Dir} (h : checkE t = 0) {i : Nat} (hi : i < t.length) (h1 : 1 ≤ i) :
    lookI t (i : Int) (lastN t[i].path) = if findI t (t[i].path ++ [lastN t[i].path]) < 0 then (i : Int) else findI t (t[i].path ++ [lastN t[i].path]) := by
  obtain ⟨a1, a2, a3⟩ := stands_of h hi h1
  have hl : 0 < t[i].path.length := List.length_pos_iff.2 a1
  rw [lookI_at hi, a3]
  show lookDown t t[i].path (lastN t[i].path) (t[i].path.length + 1) = _
  rw [lookDown, List.take_length]
  by_cases h0 : 0 ≤ findI t (t[i].path ++ [lastN t[i].path])
  · rw [decide_eq_true h0, if_neg (by omega)]; rfl
  · rw [decide_eq_false h0, if_pos (by omega)]
    show lookDown t t[i].path (lastN t[i].path) t[i].path.length = _
    obtain ⟨q, hq⟩ : ∃ q, t[i].path.length = q + 1 := ⟨t[i].path.length - 1, by omega⟩
    have hs := path_split a1
    rw [hq, Nat.add_sub_cancel] at hs
    rw [hq, lookDown, ← hs, a2, decide_eq_true (by omega)]
    rfl
/-- the name is a directory's last one, in the modules of the path's first k names -/
def standsAt (p path : List ByteArray) (s : ByteArray) : Prop := p ≠ [] ∧ p.length - 1 ≤ path.length ∧ lastN p = s ∧ p.take (p.length - 1) = path.take (p.length - 1)
theorem standsAt_path {p path : List ByteArray} {s : ByteArray} (h : standsAt p path s) : ∃ k, k ≤ path.length ∧ p = path.take k ++ [s] ∧ p.length = k + 1 := by
  obtain ⟨h1, h2, h3, h4⟩ := h
  have hl : 0 < p.length := List.length_pos_iff.2 h1
  refine ⟨p.length - 1, h2, ?_, by omega⟩
  rw [← h3, ← h4]
  exact path_split h1
theorem path_standsAt {path : List ByteArray} {s : ByteArray} {k : Nat} (hk : k ≤ path.length) : standsAt (path.take k ++ [s]) path s := by
  have hl : (path.take k ++ [s]).length = k + 1 := by rw [List.length_append, List.length_take, List.length_singleton]; omega
  refine ⟨by simp, by omega, ?_, ?_⟩
  · unfold lastN
    rw [hl, Nat.add_sub_cancel, List.getD_eq_getElem?_getD, List.getElem?_append_right (by rw [List.length_take]; omega)]
    simp [Nat.min_eq_left hk]
  · rw [hl, Nat.add_sub_cancel, List.take_append_of_le_length (by rw [List.length_take]; omega), List.take_take, Nat.min_self]
theorem near_found {t : List Dir} {i a : Nat} (hi : i < t.length) {s : ByteArray} (ha : lookI t (i : Int) s = (a : Int)) : ∃ h : a < t.length, standsAt t[a].path t[i].path s := by
  rw [lookI_at hi] at ha
  cases hn : nameB s
  · rw [hn] at ha
    have : (-1 : Int) = a := ha
    omega
  · rw [hn] at ha
    have ha : lookDown t t[i].path s (t[i].path.length + 1) = (a : Int) := ha
    rcases lookDown_spec t t[i].path s (t[i].path.length + 1) with ⟨h1, _⟩ | ⟨k, h1, h2, h3, h4⟩
    · rw [h1] at ha; omega
    · rw [h2] at ha
      obtain ⟨h5, h6⟩ := findI_sound ha
      exact ⟨h5, by rw [h6]; exact path_standsAt (by omega)⟩
theorem near_best {t : List Dir} (hc : checkE t = 0) {i j : Nat} (hi : i < t.length) (hj : j < t.length) {s : ByteArray} (h : standsAt t[j].path t[i].path s) :
    ∃ a : Nat, lookI t (i : Int) s = (a : Int) ∧ ∃ ha : a < t.length, t[j].path.length ≤ t[a].path.length := by
  have hn : nameB s = true := by
    have h1 : 1 ≤ j := by
      rcases Nat.eq_zero_or_pos j with h0 | h0
      · subst h0; exact absurd (root_of hc hj) h.1
      · exact h0
    rw [← h.2.2.1]
    exact (stands_of hc hj h1).2.2
  obtain ⟨k, hk, hp, hpl⟩ := standsAt_path h
  have hnot : ¬ findI t (t[i].path.take k ++ [s]) < 0 := fun h' => findI_none h' (List.getElem_mem hj) hp
  have hl : lookI t (i : Int) s = lookDown t t[i].path s (t[i].path.length + 1) := by rw [lookI_at hi, hn]; rfl
  rw [hl]
  rcases lookDown_spec t t[i].path s (t[i].path.length + 1) with ⟨_, h2⟩ | ⟨k', h1, h2, h3, h4⟩
  · exact absurd (h2 k (by omega)) hnot
  · have hr := findI_range t (t[i].path.take k' ++ [s])
    obtain ⟨h5, h6⟩ := findI_sound (t := t) (p := t[i].path.take k' ++ [s]) (j := (findI t (t[i].path.take k' ++ [s])).toNat) (by omega)
    refine ⟨(findI t (t[i].path.take k' ++ [s])).toNat, by rw [h2]; omega, h5, ?_⟩
    rw [h6, List.length_append, List.length_take, List.length_singleton, hpl]
    have : ¬ k' < k := fun hlt => hnot (h4 k hlt (by omega))
    omega
end Go.Proofs.YtanipbpphbkmcaaGreatDoor
