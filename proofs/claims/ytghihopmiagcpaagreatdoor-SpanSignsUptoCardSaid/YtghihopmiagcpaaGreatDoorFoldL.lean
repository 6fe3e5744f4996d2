/-
  The rules of sets for ranges, in plain words.
-/
import Derived.Test.YtghihopmiagcpaaGreatDoorFoldP
import Derived.Test.YtghihopmiagcpaaGreatDoorSpanQ
set_option autoImplicit false
set_option relaxedAutoImplicit false
set_option linter.unusedVariables false
set_option linter.unusedSimpArgs false
namespace Go.Proofs.YtghihopmiagcpaaGreatDoor

theorem all_may : spansB allS = true := by decide
theorem has_all {n : Int} : Has (rks allS) n ↔ 0 ≤ n ∧ n ≤ lastR := by
  have e : rks allS = [(0, 999999999)] := by decide
  rw [e, has_one]
  rfl
/-- the set of what two ranges make, where it fits -/
theorem fold_of {kind : Nat} {a b : List Spn} (ha : spansB a = true) (hb : spansB b = true) (h : (foldQ kind a b).2 = 0) : spansB (foldQ kind a b).1 = true ∧ rks (foldQ kind a b).1 = foldedF kind (rks a) (rks b) := by
  rcases foldQ_cases kind ha hb with ⟨_, h1, h2⟩ | ⟨h1, _⟩
  · exact ⟨h1, h2⟩
  · rw [h1] at h; exact absurd h (by decide)
theorem foldQ_may (kind : Nat) {a b : List Spn} (ha : spansB a = true) (hb : spansB b = true) : spansB (foldQ kind a b).1 = true := by
  rcases foldQ_cases kind ha hb with ⟨_, h1, h2⟩ | ⟨_, h1⟩
  · exact h1
  · rw [h1]; rfl
/-- two that make the same set are answered alike -/
theorem foldQ_same {k k' : Nat} {a b c d : List Spn} (ha : spansB a = true) (hb : spansB b = true) (hc : spansB c = true) (hd : spansB d = true)
    (h : ∀ n, Has (foldedF k (rks a) (rks b)) n ↔ Has (foldedF k' (rks c) (rks d)) n) : foldQ k a b = foldQ k' c d := by
  rw [foldQ_yes ha hb, foldQ_yes hc hd, nrm_one (foldedF_has k (spans_in0 ha) (spans_in0 hb)).2 (foldedF_has k' (spans_in0 hc) (spans_in0 hd)).2 h]
/-- what makes the set of a range is that range -/
theorem foldQ_is {k : Nat} {a b c : List Spn} (ha : spansB a = true) (hb : spansB b = true) (hc : spansB c = true)
    (h : ∀ n, Has (foldedF k (rks a) (rks b)) n ↔ Has (rks c) n) : foldQ k a b = (c, 0) := by
  rw [foldQ_yes ha hb, nrm_one (foldedF_has k (spans_in0 ha) (spans_in0 hb)).2 (spans_nrm hc) h, fitR_rks hc]

theorem inSB_fold {k : Nat} {a b : List Spn} {v : Ver} (ha : spansB a = true) (hb : spansB b = true) (h : (foldQ k a b).2 = 0) :
    inSB (foldQ k a b).1 v = (v.ok && wantB k (hasB (rks a) v.rank) (hasB (rks b) v.rank)) := by
  obtain ⟨h1, h2⟩ := fold_of ha hb h
  unfold inSB
  rw [h1, h2, Bool.true_and]
  by_cases hv : v.ok = true
  · rw [hv, Bool.true_and, Bool.true_and]
    obtain ⟨r0, r1⟩ := ok_rank hv
    rw [Bool.eq_iff_iff, hasB_iff, (foldedF_has k (spans_in0 ha) (spans_in0 hb)).1]
    exact ⟨fun h => h.2.2, fun h => ⟨r0, r1, h⟩⟩
  · have : v.ok = false := by simpa using hv
    rw [this, Bool.false_and, Bool.false_and]
theorem inSB_yes {a : List Spn} {v : Ver} (ha : spansB a = true) : inSB a v = (v.ok && hasB (rks a) v.rank) := by unfold inSB; rw [ha, Bool.true_and]
theorem points_m {a b : List Spn} {v : Ver} (ha : spansB a = true) (hb : spansB b = true) (h : (foldQ 109 a b).2 = 0) : spansB (foldQ 109 a b).1 = true ∧ inSB (foldQ 109 a b).1 v = (inSB a v && inSB b v) := by
  refine ⟨foldQ_may 109 ha hb, ?_⟩
  rw [inSB_fold ha hb h, inSB_yes ha, inSB_yes hb]
  unfold wantB
  rw [if_pos rfl]
  cases v.ok <;> simp
theorem points_j {a b : List Spn} {v : Ver} (ha : spansB a = true) (hb : spansB b = true) (h : (foldQ 106 a b).2 = 0) : spansB (foldQ 106 a b).1 = true ∧ inSB (foldQ 106 a b).1 v = (inSB a v || inSB b v) := by
  refine ⟨foldQ_may 106 ha hb, ?_⟩
  rw [inSB_fold ha hb h, inSB_yes ha, inSB_yes hb]
  unfold wantB
  rw [if_neg (by decide), if_pos rfl]
  cases v.ok <;> simp
theorem points_c {a b : List Spn} {v : Ver} (ha : spansB a = true) (hb : spansB b = true) (h : (foldQ 99 a b).2 = 0) : spansB (foldQ 99 a b).1 = true ∧ inSB (foldQ 99 a b).1 v = (inSB a v && !inSB b v) := by
  refine ⟨foldQ_may 99 ha hb, ?_⟩
  rw [inSB_fold ha hb h, inSB_yes ha, inSB_yes hb]
  unfold wantB
  rw [if_neg (by decide), if_neg (by decide)]
  cases v.ok <;> simp

theorem meet_swap (a b : List Spn) : foldQ 109 b a = foldQ 109 a b := by
  by_cases h : (spansB a && spansB b) = true
  · obtain ⟨ha, hb⟩ := (Bool.and_eq_true _ _).mp h
    refine foldQ_same hb ha ha hb fun n => ?_
    rw [folded_m (spans_in0 hb) (spans_in0 ha), folded_m (spans_in0 ha) (spans_in0 hb)]
    exact And.comm
  · have h' : (spansB a && spansB b) = false := by simpa using h
    rw [foldQ_no h', foldQ_no (by rw [Bool.and_comm]; exact h')]
theorem join_swap (a b : List Spn) : foldQ 106 b a = foldQ 106 a b := by
  by_cases h : (spansB a && spansB b) = true
  · obtain ⟨ha, hb⟩ := (Bool.and_eq_true _ _).mp h
    refine foldQ_same hb ha ha hb fun n => ?_
    rw [folded_j (spans_in0 hb) (spans_in0 ha), folded_j (spans_in0 ha) (spans_in0 hb)]
    exact Or.comm
  · have h' : (spansB a && spansB b) = false := by simpa using h
    rw [foldQ_no h', foldQ_no (by rw [Bool.and_comm]; exact h')]
theorem meet_self {a : List Spn} (ha : spansB a = true) : foldQ 109 a a = (a, 0) :=
  foldQ_is ha ha ha fun n => by rw [folded_m (spans_in0 ha) (spans_in0 ha)]; exact ⟨fun h => h.1, fun h => ⟨h, h⟩⟩
theorem cut_self {a : List Spn} (ha : spansB a = true) : foldQ 99 a a = ([], 0) :=
  foldQ_is ha ha rfl fun n => by rw [folded_c (spans_in0 ha) (spans_in0 ha)]; exact ⟨fun h => absurd h.1 h.2, fun h => absurd h (has_nil n)⟩
theorem cut_back {a : List Spn} (ha : spansB a = true) (h : (foldQ 99 allS a).2 = 0) : foldQ 99 allS (foldQ 99 allS a).1 = (a, 0) := by
  obtain ⟨h1, h2⟩ := fold_of all_may ha h
  refine foldQ_is all_may h1 ha fun n => ?_
  rw [folded_c (spans_in0 all_may) (spans_in0 h1), h2, folded_c (spans_in0 all_may) (spans_in0 ha), has_all]
  constructor
  · rintro ⟨g1, g2⟩
    refine Classical.byContradiction fun hn => g2 ⟨g1, hn⟩
  · intro hn
    exact ⟨in0_has (spans_in0 ha) hn, fun g => g.2 hn⟩
theorem parts_all {a b : List Spn} (ha : spansB a = true) (hb : spansB b = true) (h1 : (foldQ 109 a b).2 = 0) (h2 : (foldQ 99 a b).2 = 0) : foldQ 106 (foldQ 109 a b).1 (foldQ 99 a b).1 = (a, 0) := by
  obtain ⟨p1, p2⟩ := fold_of ha hb h1
  obtain ⟨q1, q2⟩ := fold_of ha hb h2
  refine foldQ_is p1 q1 ha fun n => ?_
  rw [folded_j (spans_in0 p1) (spans_in0 q1), p2, q2, folded_m (spans_in0 ha) (spans_in0 hb), folded_c (spans_in0 ha) (spans_in0 hb)]
  by_cases h : Has (rks b) n
  · simp [h]
  · simp [h]
theorem three_m {a b c : List Spn} (ha : spansB a = true) (hb : spansB b = true) (hc : spansB c = true) (h1 : (foldQ 106 b c).2 = 0) (h2 : (foldQ 109 a b).2 = 0) (h3 : (foldQ 109 a c).2 = 0) :
    foldQ 109 a (foldQ 106 b c).1 = foldQ 106 (foldQ 109 a b).1 (foldQ 109 a c).1 := by
  obtain ⟨p1, p2⟩ := fold_of hb hc h1
  obtain ⟨q1, q2⟩ := fold_of ha hb h2
  obtain ⟨r1, r2⟩ := fold_of ha hc h3
  refine foldQ_same ha p1 q1 r1 fun n => ?_
  rw [folded_m (spans_in0 ha) (spans_in0 p1), folded_j (spans_in0 q1) (spans_in0 r1), p2, q2, r2, folded_j (spans_in0 hb) (spans_in0 hc), folded_m (spans_in0 ha) (spans_in0 hb), folded_m (spans_in0 ha) (spans_in0 hc)]
  constructor
  · rintro ⟨h, g | g⟩
    · exact .inl ⟨h, g⟩
    · exact .inr ⟨h, g⟩
  · rintro (⟨h, g⟩ | ⟨h, g⟩)
    · exact ⟨h, .inl g⟩
    · exact ⟨h, .inr g⟩
theorem three_c {a b c : List Spn} (ha : spansB a = true) (hb : spansB b = true) (hc : spansB c = true) (h1 : (foldQ 106 b c).2 = 0) (h2 : (foldQ 99 a b).2 = 0) :
    foldQ 99 a (foldQ 106 b c).1 = foldQ 99 (foldQ 99 a b).1 c := by
  obtain ⟨p1, p2⟩ := fold_of hb hc h1
  obtain ⟨q1, q2⟩ := fold_of ha hb h2
  refine foldQ_same ha p1 q1 hc fun n => ?_
  rw [folded_c (spans_in0 ha) (spans_in0 p1), folded_c (spans_in0 q1) (spans_in0 hc), p2, q2, folded_j (spans_in0 hb) (spans_in0 hc), folded_c (spans_in0 ha) (spans_in0 hb)]
  constructor
  · rintro ⟨h, g⟩
    exact ⟨⟨h, fun x => g (.inl x)⟩, fun x => g (.inr x)⟩
  · rintro ⟨⟨h, g⟩, g2⟩
    refine ⟨h, ?_⟩
    rintro (x | x)
    · exact g x
    · exact g2 x
theorem three_a {a b c : List Spn} (ha : spansB a = true) (hb : spansB b = true) (hc : spansB c = true) (h1 : (foldQ 109 a b).2 = 0) (h2 : (foldQ 109 b c).2 = 0) :
    foldQ 109 (foldQ 109 a b).1 c = foldQ 109 a (foldQ 109 b c).1 := by
  obtain ⟨p1, p2⟩ := fold_of ha hb h1
  obtain ⟨q1, q2⟩ := fold_of hb hc h2
  refine foldQ_same p1 hc ha q1 fun n => ?_
  rw [folded_m (spans_in0 p1) (spans_in0 hc), folded_m (spans_in0 ha) (spans_in0 q1), p2, q2, folded_m (spans_in0 ha) (spans_in0 hb), folded_m (spans_in0 hb) (spans_in0 hc)]
  exact and_assoc
theorem foldQ_err (k : Nat) (a b : List Spn) : (foldQ k a b).2 = 0 ∨ (foldQ k a b).2 = 21 ∨ (foldQ k a b).2 = 26 := by
  by_cases h : (spansB a && spansB b) = true
  · obtain ⟨ha, hb⟩ := (Bool.and_eq_true _ _).mp h
    rcases foldQ_cases k ha hb with ⟨h1, _⟩ | ⟨h1, _⟩
    · exact .inl h1
    · exact .inr (.inr h1)
  · have h' : (spansB a && spansB b) = false := by simpa using h
    rw [foldQ_no h']
    exact .inr (.inl rfl)
theorem foldQ_len (k : Nat) (a b : List Spn) : (foldQ k a b).1.length ≤ 64 := by
  by_cases h : (spansB a && spansB b) = true
  · obtain ⟨ha, hb⟩ := (Bool.and_eq_true _ _).mp h
    have := foldQ_may k ha hb
    exact (spansB_ok this).1
  · have h' : (spansB a && spansB b) = false := by simpa using h
    rw [foldQ_no h']
    decide
end Go.Proofs.YtghihopmiagcpaaGreatDoor
