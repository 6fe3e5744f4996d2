/-
  A version with a sign, in plain words: which versions it tells.
-/
import Derived.Test.YtghihopmiagcpaaGreatDoorReadP
import Derived.Test.YtghihopmiagcpaaGreatDoorFoldL
import Derived.Test.YtghihopmiagcpaaGreatDoorSpanT
set_option autoImplicit false
set_option relaxedAutoImplicit false
set_option linter.unusedVariables false
set_option linter.unusedSimpArgs false
namespace Go.Proofs.YtghihopmiagcpaaGreatDoor

def cmp3 (x1 x2 x3 y1 y2 y3 : Int) : Int := if x1 < y1 then -1 else if y1 < x1 then 1 else if x2 < y2 then -1 else if y2 < x2 then 1 else if x3 < y3 then -1 else if y3 < x3 then 1 else 0
def gsB : List ByteArray := [⟨#[]⟩, ⟨#[61]⟩, ⟨#[60]⟩, ⟨#[60, 61]⟩, ⟨#[62]⟩, ⟨#[62, 61]⟩, ⟨#[126]⟩, ⟨#[94]⟩]
def caretB (c : Int) (mj mi : Bool) (v : Ver) : Bool := if 0 < v.major then decide (0 ≤ c) && mj else if 0 < v.minor then decide (0 ≤ c) && mi else (c == 0)
def wantsB (c : Int) (mi ca : Bool) : List Bool := [c == 0, c == 0, decide (c < 0), decide (c ≤ 0), decide (0 < c), decide (0 ≤ c), decide (0 ≤ c) && mi, ca]

theorem cmp_rank {v u : Ver} (hv : v.ok = true) (hu : u.ok = true) : (cmp3 u.major u.minor u.patch v.major v.minor v.patch = -1 ∧ u.rank < v.rank) ∨ (cmp3 u.major u.minor u.patch v.major v.minor v.patch = 0 ∧ u.rank = v.rank) ∨ (cmp3 u.major u.minor u.patch v.major v.minor v.patch = 1 ∧ v.rank < u.rank) := by
  obtain ⟨⟨a0, a1⟩, ⟨b0, b1⟩, c0, c1⟩ := verB_iff.1 (show verB v.major v.minor v.patch = true from hv)
  obtain ⟨⟨d0, d1⟩, ⟨e0, e1⟩, f0, f1⟩ := verB_iff.1 (show verB u.major u.minor u.patch = true from hu)
  rw [Ver.rank_ok hv, Ver.rank_ok hu]
  unfold rankI cmp3
  by_cases h1 : u.major < v.major
  · rw [if_pos h1]; exact .inl ⟨rfl, by omega⟩
  rw [if_neg h1]
  by_cases h2 : v.major < u.major
  · rw [if_pos h2]; exact .inr (.inr ⟨rfl, by omega⟩)
  rw [if_neg h2]
  by_cases h3 : u.minor < v.minor
  · rw [if_pos h3]; exact .inl ⟨rfl, by omega⟩
  rw [if_neg h3]
  by_cases h4 : v.minor < u.minor
  · rw [if_pos h4]; exact .inr (.inr ⟨rfl, by omega⟩)
  rw [if_neg h4]
  by_cases h5 : u.patch < v.patch
  · rw [if_pos h5]; exact .inl ⟨rfl, by omega⟩
  rw [if_neg h5]
  by_cases h6 : v.patch < u.patch
  · rw [if_pos h6]; exact .inr (.inr ⟨rfl, by omega⟩)
  rw [if_neg h6]
  exact .inr (.inl ⟨rfl, by omega⟩)

theorem sign_in {g : List UInt8} {v u : Ver} {x : Rk} (hg : ∀ c ∈ g, signsL.contains c = true) (hl : g.length ≤ 2) (hv : v.ok = true) (hu : u.ok = true) (hx : signRk g v = some x) :
    (parseQ (mkB (g ++ v.txt.data.toList))).2 = 0 ∧ inSB (parseQ (mkB (g ++ v.txt.data.toList))).1 u = decide (x.1 ≤ u.rank ∧ u.rank ≤ x.2) := by
  obtain ⟨n1, n2⟩ := sign_blank hg hv
  have hz : (g ++ v.txt.data.toList).length ≤ 4096 := by
    have h1 : v.txt.size ≤ 11 := verText_le _ _ _
    rw [size_data] at h1
    rw [List.length_append]; omega
  rw [parseQ_word hz n1 n2 ((wordF_sign hg hv).trans hx)]
  have hin : In0 (runL (max 0 x.1, min lastR x.2)) := runL_in0 (by simp only; omega) (by simp only; omega)
  have hnr : Nrm 0 (runL (max 0 x.1, min lastR x.2)) := runL_nrm (by simp only; omega)
  rcases fitR_cases hnr hin with ⟨_, e, h1, h2⟩ | ⟨h, _⟩
  · rw [e]
    refine ⟨rfl, ?_⟩
    rw [inSB_yes h1, h2, hu, Bool.true_and]
    obtain ⟨r0, r1⟩ := ok_rank hu
    rw [Bool.eq_iff_iff, hasB_iff, has_runL, decide_eq_true_iff]
    simp only
    omega
  · have := runL_len (max 0 x.1, min lastR x.2)
    omega
theorem gs_text (k : Nat) (h : k < gsB.length) (s : ByteArray) : gsB[k] ++ s = mkB (gsB[k].data.toList ++ s.data.toList) := bytes_ext (by simp [mkB])
theorem signs_plain {v u : Ver} (hv : v.ok = true) (hu : u.ok = true) (k : Nat) (h : k < gsB.length) (h' : k < (wantsB (cmp3 u.major u.minor u.patch v.major v.minor v.patch) ((u.major == v.major) && (u.minor == v.minor)) (caretB (cmp3 u.major u.minor u.patch v.major v.minor v.patch) (u.major == v.major) ((u.major == v.major) && (u.minor == v.minor)) v)).length) :
    (parseQ (gsB[k]'h ++ v.txt)).2 = 0 ∧ inSB (parseQ (gsB[k]'h ++ v.txt)).1 u = (wantsB (cmp3 u.major u.minor u.patch v.major v.minor v.patch) ((u.major == v.major) && (u.minor == v.minor)) (caretB (cmp3 u.major u.minor u.patch v.major v.minor v.patch) (u.major == v.major) ((u.major == v.major) && (u.minor == v.minor)) v))[k] := by
  rw [gs_text k h v.txt]
  have hc := cmp_rank hv hu
  obtain ⟨⟨a0, a1⟩, ⟨b0, b1⟩, c0, c1⟩ := verB_iff.1 (show verB v.major v.minor v.patch = true from hv)
  obtain ⟨⟨d0, d1⟩, ⟨e0, e1⟩, f0, f1⟩ := verB_iff.1 (show verB u.major u.minor u.patch = true from hu)
  have rv := Ver.rank_ok hv
  have ru := Ver.rank_ok hu
  unfold rankI at rv ru
  obtain ⟨r0, r1⟩ := ok_rank hu
  generalize cmp3 u.major u.minor u.patch v.major v.minor v.patch = c at *
  have key : ∀ (g : List UInt8) (x : Rk) (b : Bool), (∀ c ∈ g, signsL.contains c = true) → g.length ≤ 2 → signRk g v = some x → ((x.1 ≤ u.rank ∧ u.rank ≤ x.2) ↔ b = true) → (parseQ (mkB (g ++ v.txt.data.toList))).2 = 0 ∧ inSB (parseQ (mkB (g ++ v.txt.data.toList))).1 u = b := fun g x b h1 h2 h3 h4 => by
    obtain ⟨q1, q2⟩ := sign_in h1 h2 hv hu h3
    refine ⟨q1, q2.trans ?_⟩
    rw [Bool.eq_iff_iff, decide_eq_true_iff]; exact h4
  have hk : k = 0 ∨ k = 1 ∨ k = 2 ∨ k = 3 ∨ k = 4 ∨ k = 5 ∨ k = 6 ∨ k = 7 := by
    have : gsB.length = 8 := rfl
    omega
  rcases hk with rfl | rfl | rfl | rfl | rfl | rfl | rfl | rfl
  · exact key [] (v.rank, v.rank) (c == 0) (by decide) (by decide) rfl (by simp only [beq_iff_eq]; omega)
  · exact key [61] (v.rank, v.rank) (c == 0) (by decide) (by decide) rfl (by simp only [beq_iff_eq]; omega)
  · exact key [60] (0, v.rank - 1) (decide (c < 0)) (by decide) (by decide) rfl (by simp only [decide_eq_true_iff]; omega)
  · exact key [60, 61] (0, v.rank) (decide (c ≤ 0)) (by decide) (by decide) rfl (by simp only [decide_eq_true_iff]; omega)
  · exact key [62] (v.rank + 1, lastR) (decide (0 < c)) (by decide) (by decide) rfl (by simp only [decide_eq_true_iff]; omega)
  · exact key [62, 61] (v.rank, lastR) (decide (0 ≤ c)) (by decide) (by decide) rfl (by simp only [decide_eq_true_iff]; omega)
  · exact key [126] (v.rank, v.rank - v.patch + 999) (decide (0 ≤ c) && ((u.major == v.major) && (u.minor == v.minor))) (by decide) (by decide) rfl (by simp only [Bool.and_eq_true, decide_eq_true_iff, beq_iff_eq]; omega)
  · by_cases hM : 0 < v.major
    · refine key [94] (v.rank, v.rank - v.patch + 999 + (999 - v.minor) * 1000) (caretB c _ _ v) (by decide) (by decide) ?_ ?_
      · show (if 0 < v.major then _ else _) = _
        rw [if_pos hM]
      · unfold caretB; rw [if_pos hM]; simp only [Bool.and_eq_true, decide_eq_true_iff, beq_iff_eq]; omega
    · by_cases hm : 0 < v.minor
      · refine key [94] (v.rank, v.rank - v.patch + 999) (caretB c _ _ v) (by decide) (by decide) ?_ ?_
        · show (if 0 < v.major then _ else if 0 < v.minor then _ else _) = _
          rw [if_neg hM, if_pos hm]
        · unfold caretB; rw [if_neg hM, if_pos hm]; simp only [Bool.and_eq_true, decide_eq_true_iff, beq_iff_eq]; omega
      · refine key [94] (v.rank, v.rank) (caretB c _ _ v) (by decide) (by decide) ?_ ?_
        · show (if 0 < v.major then _ else if 0 < v.minor then _ else _) = _
          rw [if_neg hM, if_neg hm]
        · unfold caretB; rw [if_neg hM, if_neg hm]; simp only [beq_iff_eq]; omega
end Go.Proofs.YtghihopmiagcpaaGreatDoor
