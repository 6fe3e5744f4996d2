/-
  A range's text is read: span.Parse, walked.
-/
import Derived.Test.YtghihopmiagcpaaGreatDoorWord
import Derived.Test.YtghihopmiagcpaaGreatDoorSplit
set_option autoImplicit false
set_option relaxedAutoImplicit false
set_option linter.unusedVariables false
set_option linter.unusedSimpArgs false
namespace Go.Proofs.YtghihopmiagcpaaGreatDoor
open Go.Rows Go.RowKit Go.Shelf Go.Sort

attribute [local go_sem] Oper.semAt_some

def barsB : ByteArray := ⟨#[124, 124]⟩
def blankB : ByteArray := ⟨#[32]⟩
noncomputable def stepW (st : Option (Rk × Bool)) (s : ByteArray) : Option (Rk × Bool) := match st with
  | none => none
  | some (o, b) => if s = ⟨#[]⟩ then some (o, b) else match wordF s with
    | none => none
    | some x => some ((max o.1 x.1, min o.2 x.2), true)
noncomputable def innF (l : List ByteArray) : Option (Rk × Bool) := l.foldl stepW (some ((0, lastR), false))
noncomputable def stepA (st : Option (List Rk)) (a : ByteArray) : Option (List Rk) := match st with
  | none => none
  | some all => match innF (spl a blankB) with
    | none => none
    | some (o, b) => if b = false then none else if o.1 ≤ o.2 then some (all ++ [o]) else some all
noncomputable def altsF (l : List ByteArray) : Option (List Rk) := l.foldl stepA (some [])
/-- what a text is read as -/
noncomputable def parseS (t : ByteArray) : Option (List Rk) := if 4096 < t.size then none else altsF (spl t barsB)
noncomputable def parseQ (t : ByteArray) : List Spn × Int := match parseS t with
  | none => ([], 21)
  | some l => fitR (canon (Has l))
theorem fold_none {α β : Type} {f : Option α → β → Option α} (hf : ∀ x, f none x = none) : ∀ l : List β, l.foldl f none = none := by
  intro l
  induction l with
  | nil => rfl
  | cons x l ih => rw [List.foldl_cons, hf]; exact ih
theorem fold_dead {α β : Type} {f : Option α → β → Option α} (hf : ∀ x, f none x = none) {s : Option α} {l : List β} {k : Nat} (h : (l.take k).foldl f s = none) : l.foldl f s = none := by
  conv => lhs; rw [← List.take_append_drop k l]
  rw [List.foldl_append, h]; exact fold_none hf _
theorem fold_snoc {α β : Type} {f : α → β → α} {s : α} {l : List β} {k : Nat} (h : k < l.length) : (l.take (k + 1)).foldl f s = f ((l.take k).foldl f s) l[k] := by
  rw [List.take_succ_eq_append_getElem h, List.foldl_append]; rfl
theorem stepW_none (s : ByteArray) : stepW none s = none := rfl
theorem stepA_none (s : ByteArray) : stepA none s = none := rfl
theorem wordF_bounds {s : ByteArray} {x : Rk} (h : wordF s = some x) : (0 ≤ x.1 ∧ x.1 ≤ 1000000000) ∧ -1 ≤ x.2 ∧ x.2 ≤ lastR := by
  unfold wordF at h
  split at h
  · cases h; unfold lastR; exact ⟨⟨by decide, by decide⟩, by decide, by decide⟩
  · split at h
    · cases h
    · rename_i v hv
      obtain ⟨hok, _⟩ := vparse_is hv
      have hr : v.rank = rankI v.major v.minor v.patch := v.rank_ok hok
      obtain ⟨⟨a0, a1⟩, ⟨b0, b1⟩, c0, c1⟩ := verB_iff.1 (show verB v.major v.minor v.patch = true from hok)
      unfold rankI at hr
      unfold lastR
      rcases sign_cases (signB s).data.toList v with ⟨_, hs⟩ | ⟨_, hs⟩ | ⟨_, hs⟩ | ⟨_, hs⟩ | ⟨_, hs⟩ | ⟨_, hs⟩ | ⟨_, hs⟩ | ⟨_, hs⟩ | ⟨_, hs⟩ <;> rw [hs] at h
      rotate_left 7
      · split at h
        · cases h; constructor <;> constructor <;> (simp only; omega)
        · split at h <;> (cases h; constructor <;> constructor <;> (simp only; omega))
      · cases h
      all_goals (cases h; constructor <;> constructor <;> (simp only [lastR]; omega))
theorem splitB_len (sep : ByteArray) : ∀ (k : Nat) (s : ByteArray), (Lib.splitB sep 0 k s).length ≤ k + 1 := by
  intro k
  induction k with
  | zero => intro s; rw [Lib.splitB_zero]; simp
  | succ k ih =>
    intro s
    rcases Lib.indexB_cases s sep with hi | ⟨i, hi, hir⟩
    · rw [Lib.splitB_miss _ _ _ _ hi]; simp
    · rw [Lib.splitB_hit _ _ _ _ _ hi, List.length_cons]; have := ih (s.extract (i + sep.size) s.size); omega
/-- what one alternative's words leave -/
theorem innF_bounds : ∀ (l : List ByteArray) {o : Rk} {b : Bool}, innF l = some (o, b) → (0 ≤ o.1 ∧ o.1 ≤ 1000000000) ∧ -1 ≤ o.2 ∧ o.2 ≤ lastR := by
  intro l
  suffices H : ∀ (l : List ByteArray) (o0 : Rk) (b0 : Bool), ((0 ≤ o0.1 ∧ o0.1 ≤ 1000000000) ∧ -1 ≤ o0.2 ∧ o0.2 ≤ lastR) → ∀ (o : Rk) (b : Bool), l.foldl stepW (some (o0, b0)) = some (o, b) → (0 ≤ o.1 ∧ o.1 ≤ 1000000000) ∧ -1 ≤ o.2 ∧ o.2 ≤ lastR from
    fun o b h => H l (0, lastR) false (by unfold lastR; decide) o b h
  intro l
  induction l with
  | nil => intro o0 b0 h0 o b h; cases h; exact h0
  | cons x l ih =>
    intro o0 b0 h0 o b h
    rw [List.foldl_cons] at h
    by_cases hx : x = ⟨#[]⟩
    · rw [show stepW (some (o0, b0)) x = some (o0, b0) by unfold stepW; simp only [if_pos hx]] at h
      exact ih o0 b0 h0 o b h
    · cases hw : wordF x with
      | none =>
        rw [show stepW (some (o0, b0)) x = none by unfold stepW; simp only [if_neg hx, hw], fold_none stepW_none] at h
        cases h
      | some y =>
        rw [show stepW (some (o0, b0)) x = some ((max o0.1 y.1, min o0.2 y.2), true) by unfold stepW; simp only [if_neg hx, hw]] at h
        refine ih _ _ ?_ o b h
        have := wordF_bounds hw
        simp only
        omega
theorem altsF_in0 (l : List ByteArray) {all : List Rk} (h : altsF l = some all) : In0 all ∧ all.length ≤ l.length := by
  suffices H : ∀ (l : List ByteArray) (a0 : List Rk), In0 a0 → ∀ all, l.foldl stepA (some a0) = some all → In0 all ∧ all.length ≤ a0.length + l.length by
    have := H l [] (fun x hx => by simp at hx) all h
    simpa using this
  intro l
  induction l with
  | nil => intro a0 h0 all h; cases h; exact ⟨h0, by simp⟩
  | cons x l ih =>
    intro a0 h0 all h
    rw [List.foldl_cons] at h
    unfold stepA at h
    simp only at h
    change l.foldl stepA _ = _ at h
    cases hi : innF (spl x blankB) with
    | none => simp only [hi] at h; rw [fold_none stepA_none] at h; cases h
    | some q =>
      obtain ⟨o, b⟩ := q
      simp only [hi] at h
      have hb := innF_bounds _ hi
      split at h
      · rw [fold_none stepA_none] at h; cases h
      · split at h
        · rename_i hle
          obtain ⟨q1, q2⟩ := ih _ (fun y hy => by
            rcases List.mem_append.1 hy with hy | hy
            · exact h0 y hy
            · simp at hy; subst hy; exact ⟨hb.1.1, hle, hb.2.2⟩) all h
          refine ⟨q1, ?_⟩
          rw [List.length_append] at q2
          simp only [List.length_cons, List.length_nil] at q2 ⊢
          omega
        · obtain ⟨q1, q2⟩ := ih _ h0 all h
          exact ⟨q1, by simp only [List.length_cons]; omega⟩
end Go.Proofs.YtghihopmiagcpaaGreatDoor
