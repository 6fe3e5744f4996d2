/-
  A version's text read byte by byte, as the document does, in plain words.
-/
import Derived.Test.YtghihopmiagcpaaGreatDoorVParseP
import Derived.Test.YtghihopmiagcpaaGreatDoorScanName
set_option autoImplicit false
set_option relaxedAutoImplicit false
set_option linter.unusedVariables false
set_option linter.unusedSimpArgs false
namespace Go.Proofs.YtghihopmiagcpaaGreatDoor

/-- the numbers read so far, and the one that is being read -/
def pStep (st : Option (List Int × Int)) (c : UInt8) : Option (List Int × Int) := match st with
  | none => none
  | some (l, x) => if c = 46 then some (l ++ [x], 0) else if (48 ≤ c.toNat ∧ c.toNat ≤ 57) ∧ x ≤ 999 then some (l, 10 * x + ((c.toNat : Int) - 48)) else none
def pAll (s : List UInt8) : Option (List Int × Int) := s.foldl pStep (some ([], 0))
def dStep (o : Option Int) (c : UInt8) : Option Int := match o with
  | none => none
  | some x => if (48 ≤ c.toNat ∧ c.toNat ≤ 57) ∧ x ≤ 999 then some (10 * x + ((c.toNat : Int) - 48)) else none
theorem pStep_dead : ∀ s : List UInt8, s.foldl pStep none = none := by
  intro s
  induction s with
  | nil => rfl
  | cons c s ih => rw [List.foldl_cons]; exact ih
theorem dStep_dead : ∀ s : List UInt8, s.foldl dStep none = none := by
  intro s
  induction s with
  | nil => rfl
  | cons c s ih => rw [List.foldl_cons]; exact ih
theorem pStep_digits : ∀ (s : List UInt8) (l : List Int) (x y : Int), s.foldl dStep (some x) = some y → s.foldl pStep (some (l, x)) = some (l, y) := by
  intro s
  induction s with
  | nil => intro l x y h; cases h; rfl
  | cons c s ih =>
    intro l x y h
    rw [List.foldl_cons] at h ⊢
    by_cases hc : (48 ≤ c.toNat ∧ c.toNat ≤ 57) ∧ x ≤ 999
    · have e : dStep (some x) c = some (10 * x + ((c.toNat : Int) - 48)) := if_pos hc
      have n : c ≠ 46 := by rintro rfl; exact absurd hc.1.1 (by decide)
      have e' : pStep (some (l, x)) c = some (l, 10 * x + ((c.toNat : Int) - 48)) := by unfold pStep; simp only [if_neg n, if_pos hc]
      rw [e] at h
      rw [e']
      exact ih _ _ _ h
    · have e : dStep (some x) c = none := if_neg hc
      rw [e, dStep_dead] at h
      cases h
theorem digits_read : ∀ k : Fin 1000, (itoaB (k.val : Int)).data.toList.foldl dStep (some 0) = some (k.val : Int) := by decide +kernel
theorem digits_of {n : Int} (h0 : 0 ≤ n) (h1 : n ≤ 999) (l : List Int) : (itoaB n).data.toList.foldl pStep (some (l, 0)) = some (l, n) := by
  have := digits_read ⟨n.toNat, by omega⟩
  have e : ((n.toNat : Nat) : Int) = n := by omega
  simp only [e] at this
  exact pStep_digits _ l 0 n this
theorem pStep_dot (l : List Int) (x : Int) : pStep (some (l, x)) 46 = some (l ++ [x], 0) := by simp [pStep]
theorem txtL_list {v : Ver} (h : v.ok = true) : v.txt.data.toList = (itoaB v.major).data.toList ++ (46 :: ((itoaB v.minor).data.toList ++ (46 :: (itoaB v.patch).data.toList))) := by
  unfold Ver.txt verText
  have hv : verB v.major v.minor v.patch = true := h
  rw [if_pos hv]
  simp [dotB]
theorem pAll_txt {v : Ver} (h : v.ok = true) : pAll v.txt.data.toList = some ([v.major, v.minor], v.patch) := by
  obtain ⟨⟨a0, a1⟩, ⟨b0, b1⟩, c0, c1⟩ := verB_iff.1 (show verB v.major v.minor v.patch = true from h)
  rw [txtL_list h]
  unfold pAll
  rw [List.foldl_append, digits_of a0 a1, List.foldl_cons, pStep_dot, List.foldl_append, digits_of b0 b1, List.foldl_cons, pStep_dot, digits_of c0 c1]
  rfl
theorem pAll_yes {s : ByteArray} {x y z : Int} (h : pAll s.data.toList = some ([x, y], z)) (ht : verText x y z = s) : vparse s = some ⟨x, y, z⟩ := by
  have hv : verB x y z = true := by
    cases hb : verB x y z with
    | true => rfl
    | false =>
      unfold verText at ht
      rw [hb, if_neg (by decide : ¬ (false = true))] at ht
      rw [← ht, show pAll (⟨#[]⟩ : ByteArray).data.toList = some ([], 0) from rfl] at h
      cases h
  exact vparse_some (v := ⟨x, y, z⟩) hv ht.symm
theorem pAll_other {s : ByteArray} {x y z : Int} (h : pAll s.data.toList = some ([x, y], z)) (ht : verText x y z ≠ s) : vparse s = none :=
  vparse_no fun v hv e => by
    rw [e, pAll_txt hv] at h
    simp only [Option.some.injEq, Prod.mk.injEq, List.cons.injEq, and_true] at h
    obtain ⟨⟨rfl, rfl⟩, rfl⟩ := h
    exact ht e.symm
theorem pAll_none {s : ByteArray} (h : pAll s.data.toList = none) : vparse s = none :=
  vparse_no fun v hv e => by rw [e, pAll_txt hv] at h; cases h
theorem pAll_len {s : ByteArray} {l : List Int} {x : Int} (h : pAll s.data.toList = some (l, x)) (hl : l.length ≠ 2) : vparse s = none :=
  vparse_no fun v hv e => by rw [e, pAll_txt hv] at h; cases h; exact hl rfl
theorem pAll_empty {s : ByteArray} {x y z : Int} (h : pAll s.data.toList = some ([x, y], z)) : s.size ≠ 0 := fun e => by
  rw [size_data s] at e
  rw [List.eq_nil_of_length_eq_zero e, show pAll [] = some ([], 0) from rfl] at h
  cases h
theorem pAll_bounds : ∀ (s : List UInt8) (l : List Int) (x : Int), pAll s = some (l, x) → (0 ≤ x ∧ x ≤ 9999) ∧ (∀ y ∈ l, 0 ≤ y ∧ y ≤ 9999) ∧ l.length ≤ s.length := by
  intro s
  unfold pAll
  rw [← List.reverse_reverse s]
  generalize s.reverse = r
  induction r with
  | nil => intro l x h; cases h; exact ⟨⟨by decide, by decide⟩, fun y hy => by simp at hy, Nat.le_refl _⟩
  | cons c r ih =>
    intro l x h
    rw [List.reverse_cons, List.foldl_append] at h
    cases hq : r.reverse.foldl pStep (some ([], 0)) with
    | none => rw [hq] at h; cases h
    | some q =>
      obtain ⟨m, y⟩ := q
      obtain ⟨i1, i2, i3⟩ := ih m y hq
      rw [hq] at h
      simp only [List.length_reverse, List.length_cons] at i3 ⊢
      have h' : pStep (some (m, y)) c = some (l, x) := h
      by_cases hc : c = 46
      · subst hc
        rw [pStep_dot] at h'
        cases h'
        refine ⟨⟨by decide, by decide⟩, fun z hz => ?_, by simp; omega⟩
        rcases List.mem_append.1 hz with hz | hz
        · exact i2 z hz
        · rw [List.mem_singleton.1 hz]; exact i1
      · unfold pStep at h'
        simp only [if_neg hc] at h'
        split at h'
        · rename_i hd
          cases h'
          exact ⟨⟨by omega, by omega⟩, i2, by omega⟩
        · cases h'
end Go.Proofs.YtghihopmiagcpaaGreatDoor
