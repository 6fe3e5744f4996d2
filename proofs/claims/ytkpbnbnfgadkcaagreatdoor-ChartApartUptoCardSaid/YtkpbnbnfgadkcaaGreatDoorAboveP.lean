/-
  In a tree that may be each directory but the root stands in just one other one's modules: the plain law.
-/
import Derived.Test.YtkpbnbnfgadkcaaGreatDoorInsD
import Derived.Test.YtkpbnbnfgadkcaaGreatDoorNearP
import Derived.Test.YtkpbnbnfgadkcaaGreatDoorParent
set_option autoImplicit false
set_option relaxedAutoImplicit false
set_option linter.unusedVariables false
set_option linter.unusedSimpArgs false
namespace Go.Proofs.YtkpbnbnfgadkcaaGreatDoor
open Go.Rows Go.RowKit Go.Shelf Go.Sort

theorem stands_above {t : List Dir} (h : checkE t = 0) {i : Nat} (hi : i < t.length) (h1 : 1 ≤ i) : 0 ≤ aboveI t t[i].path ∧ aboveI t t[i].path < (i : Int) := by
  have := okGo_stands t t 0 (checkE_ok h) i hi (by omega)
  rw [Nat.zero_add] at this
  unfold standsB at this
  simp only [Bool.and_eq_true, decide_eq_true_eq] at this
  exact ⟨this.2.2.2.2.2.1, this.2.2.2.2.2.2.1⟩
theorem findI_root {t : List Dir} (h : checkE t = 0) (h0 : 0 < t.length) : findI t [] = 0 := by
  have hr := root_of h h0
  match t, h0, hr with
  | d :: l, _, hr =>
    have hr : d.path = [] := hr
    unfold findI firstI
    rw [firstGo, hr, eqB_true rfl]; rfl
theorem findI_self {t : List Dir} (h : checkE t = 0) {i : Nat} (hi : i < t.length) : findI t t[i].path = (i : Int) := by
  rcases Nat.eq_zero_or_pos i with h0 | h0
  · subst h0; rw [root_of h hi]; exact findI_root h hi
  · exact (stands_of h hi h0).2.1
theorem aboveI_take (t : List Dir) {p : List ByteArray} {q : Nat} (h : p.length = q + 1) : aboveI t p = findI t (p.take q) := by
  unfold aboveI; rw [h]; rfl
/-- what is inside: those above which the directory stands -/
theorem inside_mem {t : List Dir} (h : checkE t = 0) {j y : Nat} (hj : j < t.length) : y ∈ insideL t j ↔ ∃ hy : y < t.length, 1 ≤ y ∧ aboveI t t[y].path = (j : Int) := by
  unfold insideL
  rw [List.getElem?_eq_getElem hj]
  show y ∈ insR (nmL t) (insQ t t[j].path) t.length ↔ _
  constructor
  · intro hm
    obtain ⟨hy, hq⟩ := insR_mem hm
    rw [insQ_at hy, Bool.and_eq_true, decide_eq_true_eq] at hq
    obtain ⟨h1, h2⟩ := hq
    have h2 := eqB_of h2
    refine ⟨hy, ?_, ?_⟩
    · rcases Nat.eq_zero_or_pos y with h0 | h0
      · subst h0; rw [root_of h hy] at h1; simp at h1
      · exact h0
    · rw [aboveI_take t h1, h2, findI_self h hj]
  · rintro ⟨hy, h1, h2⟩
    obtain ⟨hne, _, _⟩ := stands_of h hy h1
    obtain ⟨q, hq⟩ : ∃ q, t[y].path.length = q + 1 := ⟨t[y].path.length - 1, by have := List.length_pos_iff.2 hne; omega⟩
    rw [aboveI_take t hq] at h2
    obtain ⟨_, h3⟩ := findI_sound h2
    have hl : t[j].path.length = q := by rw [h3, List.length_take]; omega
    have hqq : insQ t t[j].path y = true := by
      rw [insQ_at hy, hl, hq, decide_eq_true rfl, h3, eqB_true rfl]; rfl
    rw [(insR_perm _ _ _).mem_iff, List.mem_filter, List.mem_range]
    exact ⟨hy, hqq⟩
theorem insideI_nat (t : List Dir) (j : Nat) : insideI t (j : Int) = insideL t j := by unfold insideI; rw [if_pos (by omega), Int.toNat_natCast]
theorem inside_nodup (t : List Dir) (j : Nat) : (insideL t j).Nodup := by
  unfold insideL
  split
  · exact (insR_sorted _ _ _).imp fun {x y} hxy e => by subst e; rw [ltN_irrefl] at hxy; cases hxy
  · exact List.nodup_nil
/-- how often a directory has been seen, when those ahead of j are done, and the first k of j -/
def seenAt (t : List Dir) (j k y : Nat) : Prop := ∃ hy : y < t.length, 1 ≤ y ∧ (aboveI t t[y].path < (j : Int) ∨ y ∈ (insideL t j).take k)
theorem inseen_start (t : List Dir) {y : Nat} (h : checkE t = 0) : ¬ seenAt t 0 0 y := by
  rintro ⟨hy, h1, h2 | h2⟩
  · have := (stands_above h hy h1).1; omega
  · simp at h2
theorem inseen_step {t : List Dir} (h : checkE t = 0) {j k : Nat} (hj : j < t.length) (hk : k < (insideL t j).length) (y : Nat) : seenAt t j (k + 1) y ↔ seenAt t j k y ∨ y = (insideL t j)[k] := by
  unfold seenAt
  rw [List.take_succ_eq_append_getElem hk]
  constructor
  · rintro ⟨hy, h1, h2 | h2⟩
    · exact .inl ⟨hy, h1, .inl h2⟩
    · rw [List.mem_append, List.mem_singleton] at h2
      rcases h2 with h2 | h2
      · exact .inl ⟨hy, h1, .inr h2⟩
      · exact .inr h2
  · rintro (⟨hy, h1, h2⟩ | h2)
    · rcases h2 with h2 | h2
      · exact ⟨hy, h1, .inl h2⟩
      · exact ⟨hy, h1, .inr (List.mem_append_left _ h2)⟩
    · subst h2
      obtain ⟨hy, h1, h3⟩ := (inside_mem h hj).1 (List.getElem_mem hk)
      exact ⟨hy, h1, .inr (List.mem_append_right _ (by simp))⟩
theorem inseen_new {t : List Dir} (h : checkE t = 0) {j k : Nat} (hj : j < t.length) (hk : k < (insideL t j).length) : ¬ seenAt t j k (insideL t j)[k] := by
  rintro ⟨hy, h1, h2 | h2⟩
  · obtain ⟨_, _, h3⟩ := (inside_mem h hj).1 (List.getElem_mem hk)
    rw [h3] at h2; omega
  · rw [List.mem_take_iff_getElem] at h2
    obtain ⟨i, hi, he⟩ := h2
    have hik : i < k := by omega
    have := List.pairwise_iff_getElem.1 (inside_nodup t j) i k (by omega) hk hik
    exact this he
theorem inseen_end {t : List Dir} (h : checkE t = 0) {j : Nat} (hj : j < t.length) (y : Nat) : seenAt t j (insideL t j).length y ↔ seenAt t (j + 1) 0 y := by
  unfold seenAt
  rw [List.take_length]
  constructor
  · rintro ⟨hy, h1, h2 | h2⟩
    · exact ⟨hy, h1, .inl (by omega)⟩
    · obtain ⟨_, _, h3⟩ := (inside_mem h hj).1 h2
      exact ⟨hy, h1, .inl (by rw [h3]; omega)⟩
  · rintro ⟨hy, h1, h2 | h2⟩
    · by_cases he : aboveI t t[y].path = (j : Int)
      · exact ⟨hy, h1, .inr ((inside_mem h hj).2 ⟨hy, h1, he⟩)⟩
      · exact ⟨hy, h1, .inl (by omega)⟩
    · simp at h2
theorem inseen_all {t : List Dir} (h : checkE t = 0) {y : Nat} (hy : y < t.length) : seenAt t t.length 0 y ↔ 1 ≤ y := by
  constructor
  · rintro ⟨_, h1, _⟩; exact h1
  · intro h1
    exact ⟨hy, h1, .inl (by have := (stands_above h hy h1).2; omega)⟩
/-- the counts: 1 where it has been seen, else 0 -/
def Seen (t : List Dir) (j k : Nat) (l : List Int) : Prop := l.length = t.length ∧ ∀ y x, l[y]? = some x → (seenAt t j k y → x = 1) ∧ (¬ seenAt t j k y → x = 0)
theorem Seen.start {t : List Dir} (h : checkE t = 0) : Seen t 0 0 (List.replicate t.length 0) :=
  ⟨by simp, fun y x hx => by
    rw [List.getElem?_replicate] at hx
    split at hx
    · injection hx with hx
      exact ⟨fun hs => absurd hs (inseen_start t h), fun _ => hx.symm⟩
    · cases hx⟩
theorem Seen.step {t : List Dir} (h : checkE t = 0) {j k : Nat} {l : List Int} (hl : Seen t j k l) (hj : j < t.length) (hk : k < (insideL t j).length) :
    l[(insideL t j)[k]]? = some 0 ∧ Seen t j (k + 1) (l.set (insideL t j)[k] 1) := by
  obtain ⟨hy, _, _⟩ := (inside_mem h hj).1 (List.getElem_mem hk)
  have hyl : (insideL t j)[k] < l.length := by rw [hl.1]; exact hy
  have h0 := (hl.2 _ _ (List.getElem?_eq_getElem hyl)).2 (inseen_new h hj hk)
  refine ⟨by rw [List.getElem?_eq_getElem hyl, h0], by rw [List.length_set]; exact hl.1, fun y x hx => ?_⟩
  rw [inseen_step h hj hk]
  by_cases he : y = (insideL t j)[k]
  · subst he
    rw [List.getElem?_set_self hyl] at hx
    injection hx with hx
    exact ⟨fun _ => hx.symm, fun hn => absurd (.inr rfl) hn⟩
  · rw [List.getElem?_set_ne (fun e => he e.symm)] at hx
    obtain ⟨g1, g2⟩ := hl.2 y x hx
    exact ⟨fun hs => g1 (hs.resolve_right he), fun hn => g2 fun hs => hn (.inl hs)⟩
theorem Seen.next {t : List Dir} (h : checkE t = 0) {j : Nat} {l : List Int} (hl : Seen t j (insideL t j).length l) (hj : j < t.length) : Seen t (j + 1) 0 l :=
  ⟨hl.1, fun y x hx => by rw [← inseen_end h hj]; exact hl.2 y x hx⟩
theorem Seen.final {t : List Dir} (h : checkE t = 0) {l : List Int} (hl : Seen t t.length 0 l) {y : Nat} {x : Int} (hx : l[y]? = some x) : (y = 0 → x = 0) ∧ (1 ≤ y → x = 1) := by
  have hy : y < t.length := by rw [← hl.1]; exact (List.getElem?_eq_some_iff.1 hx).1
  obtain ⟨g1, g2⟩ := hl.2 y x hx
  rw [inseen_all h hy] at g1 g2
  exact ⟨fun h0 => g2 (by omega), g1⟩
theorem parent_inside {t : List Dir} (h : checkE t = 0) {j k : Nat} (hj : j < t.length) (hk : k < (insideL t j).length) : (insideL t j)[k] < t.length ∧ j < (insideL t j)[k] ∧ parentI t ((insideL t j)[k] : Int) = (j : Int) := by
  obtain ⟨hy, h1, h2⟩ := (inside_mem h hj).1 (List.getElem_mem hk)
  refine ⟨hy, ?_, ?_⟩
  · have := (stands_above h hy h1).2; omega
  · have hne := (stands_of h hy h1).1
    unfold parentI
    rw [dif_pos ⟨by omega, by simpa using hy⟩]
    simp only [Int.toNat_natCast]
    rw [if_neg hne]
    exact h2
end Go.Proofs.YtkpbnbnfgadkcaaGreatDoor
