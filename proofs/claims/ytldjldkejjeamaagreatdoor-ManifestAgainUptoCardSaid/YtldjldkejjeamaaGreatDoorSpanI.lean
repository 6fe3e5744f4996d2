/-
  A version in a range: span.In and the document's, walked.
-/
import Derived.Test.YtldjldkejjeamaaGreatDoorSParse
set_option autoImplicit false
set_option relaxedAutoImplicit false
set_option linter.unusedVariables false
set_option linter.unusedSimpArgs false
namespace Go.Proofs.YtldjldkejjeamaaGreatDoor
open Go.Rows Go.RowKit Go.Shelf Go.Sort

/-- the first that is not nought -/
def orF (x y : Int) : Int := if x ≠ 0 then x else y
def cmpV (a b : Ver) : Int := orF (Lib.compareInt a.major b.major) (orF (Lib.compareInt a.minor b.minor) (Lib.compareInt a.patch b.patch))
theorem cmpV_le {a b : Ver} (ha : a.ok = true) (hb : b.ok = true) : cmpV a b ≤ 0 ↔ a.rank ≤ b.rank := by
  rw [a.rank_ok ha, b.rank_ok hb]
  obtain ⟨⟨a0, a1⟩, ⟨b0, b1⟩, c0, c1⟩ := verB_iff.1 (show verB a.major a.minor a.patch = true from ha)
  obtain ⟨⟨p0, p1⟩, ⟨q0, q1⟩, r0, r1⟩ := verB_iff.1 (show verB b.major b.minor b.patch = true from hb)
  unfold cmpV orF Lib.compareInt rankI
  repeat' split
  all_goals omega
def cellsV (v : Ver) : List Value := [.int .i64 v.major, .int .i64 v.minor, .int .i64 v.patch]

def in1B (v : Ver) (s : Spn) : Bool := decide (cmpV s.lo v ≤ 0) && decide (cmpV v s.hi ≤ 0)
def fstGo (q : Spn → Bool) : List Spn → Nat → Int
  | [], _ => -1
  | d :: t, k => bif q d then (k : Int) else fstGo q t (k + 1)
theorem fstGo_at (q : Spn → Bool) {t : List Spn} {k : Nat} (h : k < t.length) : fstGo q (t.drop k) k = bif q t[k] then (k : Int) else fstGo q (t.drop (k + 1)) (k + 1) := by
  rw [List.drop_eq_getElem_cons h, fstGo]
theorem fstGo_any (q : Spn → Bool) : ∀ (t : List Spn) (k : Nat), (fstGo q t k = -1 ∧ t.any q = false) ∨ (0 ≤ fstGo q t k ∧ t.any q = true) := by
  intro t
  induction t with
  | nil => intro k; exact .inl ⟨rfl, rfl⟩
  | cons d l ih =>
    intro k
    rw [fstGo, List.any_cons]
    cases q d
    · exact ih (k + 1)
    · exact .inr ⟨Int.natCast_nonneg k, rfl⟩

/-- is a version in a range? -/
noncomputable def inSB (l : List Spn) (v : Ver) : Bool := spansB l && (v.ok && hasB (rks l) v.rank)
theorem spanGo_ok : ∀ {l : List Spn} {a : Int}, spanGo a l = true → (∀ s ∈ l, s.lo.ok = true ∧ s.hi.ok = true) ∧ Nrm a (rks l) := by
  intro l
  induction l with
  | nil => intro a _; exact ⟨fun s h => by simp at h, trivial⟩
  | cons s l ih =>
    intro a h
    unfold spanGo at h
    simp only [Bool.and_eq_true, decide_eq_true_eq] at h
    obtain ⟨⟨⟨⟨h1, h2⟩, h3⟩, h4⟩, h5⟩ := h
    obtain ⟨i1, i2⟩ := ih h5
    refine ⟨fun x hx => ?_, h3, h4, i2⟩
    rcases List.mem_cons.1 hx with rfl | hx
    · exact ⟨h1, h2⟩
    · exact i1 x hx
theorem spansB_ok {l : List Spn} (h : spansB l = true) : l.length ≤ 64 ∧ (∀ s ∈ l, s.lo.ok = true ∧ s.hi.ok = true) ∧ Nrm 0 (rks l) := by
  unfold spansB at h
  simp only [Bool.and_eq_true, decide_eq_true_eq] at h
  exact ⟨h.1, spanGo_ok h.2⟩
theorem any_has {l : List Spn} (h : spansB l = true) {v : Ver} (hv : v.ok = true) : l.any (in1B v) = hasB (rks l) v.rank := by
  obtain ⟨_, h2, _⟩ := spansB_ok h
  rw [Bool.eq_iff_iff, hasB_iff, List.any_eq_true]
  unfold Has in1B rks
  constructor
  · rintro ⟨s, hs, hq⟩
    simp only [Bool.and_eq_true, decide_eq_true_eq] at hq
    exact ⟨_, List.mem_map.2 ⟨s, hs, rfl⟩, (cmpV_le (h2 s hs).1 hv).1 hq.1, (cmpV_le hv (h2 s hs).2).1 hq.2⟩
  · rintro ⟨x, hx, q1, q2⟩
    obtain ⟨s, hs, rfl⟩ := List.mem_map.1 hx
    exact ⟨s, hs, by simp only [Bool.and_eq_true, decide_eq_true_eq]; exact ⟨(cmpV_le (h2 s hs).1 hv).2 q1, (cmpV_le hv (h2 s hs).2).2 q2⟩⟩

end Go.Proofs.YtldjldkejjeamaaGreatDoor
