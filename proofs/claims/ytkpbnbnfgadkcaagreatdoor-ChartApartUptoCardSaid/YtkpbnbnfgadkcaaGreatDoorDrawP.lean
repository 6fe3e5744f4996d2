/-
  A tree drawn on rows: which directory stands on which row, told by places; the plain law.
-/
import Derived.Test.YtkpbnbnfgadkcaaGreatDoorAboveP
set_option autoImplicit false
set_option relaxedAutoImplicit false
set_option linter.unusedVariables false
set_option linter.unusedSimpArgs false
namespace Go.Proofs.YtkpbnbnfgadkcaaGreatDoor
open Go.Rows Go.RowKit Go.Shelf Go.Sort

/-- how deep a directory stands -/
def dep (t : List Dir) (j : Nat) : Nat := match t[j]? with | some d => d.path.length | none => 0
theorem dep_at {t : List Dir} {j : Nat} (h : j < t.length) : dep t j = t[j].path.length := by unfold dep; rw [List.getElem?_eq_getElem h]
def sumR (r : Nat → Nat) : List Nat → Nat
  | [] => 0
  | k :: l => r k + sumR r l
theorem sumR_append (r : Nat → Nat) : ∀ a b, sumR r (a ++ b) = sumR r a + sumR r b := by
  intro a
  induction a with
  | nil => intro b; simp [sumR]
  | cons x a ih => intro b; rw [List.cons_append, sumR, sumR, ih]; omega
theorem sumR_snoc (r : Nat → Nat) {l : List Nat} {k : Nat} (h : k < l.length) : sumR r (l.take (k + 1)) = sumR r (l.take k) + r l[k] := by
  rw [List.take_succ_eq_append_getElem h, sumR_append]; simp [sumR]
/-- how many rows a directory takes -/
noncomputable def rowsF (t : List Dir) : Nat → Nat → Nat
  | 0, _ => 1
  | f + 1, j => if insideL t j = [] then 1 else sumR (rowsF t f) (insideL t j)
def foldD (d : Nat → Nat → List (Nat × Nat)) (r : Nat → Nat) : List Nat → Nat → List (Nat × Nat)
  | [], _ => []
  | k :: l, row => d k row ++ foldD d r l (row + r k)
theorem foldD_append (d : Nat → Nat → List (Nat × Nat)) (r : Nat → Nat) : ∀ a b row, foldD d r (a ++ b) row = foldD d r a row ++ foldD d r b (row + sumR r a) := by
  intro a
  induction a with
  | nil => intro b row; simp [foldD, sumR]
  | cons x a ih => intro b row; rw [List.cons_append, foldD, foldD, ih, List.append_assoc, sumR, Nat.add_assoc]
theorem foldD_snoc (d : Nat → Nat → List (Nat × Nat)) (r : Nat → Nat) {l : List Nat} {k : Nat} (h : k < l.length) (row : Nat) : foldD d r (l.take (k + 1)) row = foldD d r (l.take k) row ++ d l[k] (row + sumR r (l.take k)) := by
  rw [List.take_succ_eq_append_getElem h, foldD_append]; simp [foldD]
/-- the directories in the order of the drawing, each with its row -/
noncomputable def drawF (t : List Dir) : Nat → Nat → Nat → List (Nat × Nat)
  | 0, _, _ => []
  | f + 1, j, row => (j, row) :: foldD (drawF t f) (rowsF t f) (insideL t j) row
theorem rowsF_pos (t : List Dir) : ∀ f j, 1 ≤ rowsF t f j := by
  intro f
  induction f with
  | zero => intro j; exact Nat.le_refl _
  | succ f ih =>
    intro j
    rw [rowsF]
    split
    · exact Nat.le_refl _
    · rename_i h
      cases hl : insideL t j with
      | nil => exact absurd hl h
      | cons k l => rw [sumR]; have := ih k; omega
theorem mem_foldD {d : Nat → Nat → List (Nat × Nat)} {r : Nat → Nat} {e : Nat × Nat} : ∀ {l : List Nat} {row : Nat}, e ∈ foldD d r l row → ∃ i, ∃ h : i < l.length, e ∈ d l[i] (row + sumR r (l.take i)) := by
  intro l
  induction l with
  | nil => intro row h; cases h
  | cons k l ih =>
    intro row h
    rw [foldD, List.mem_append] at h
    rcases h with h | h
    · exact ⟨0, by simp, by simpa [sumR] using h⟩
    · obtain ⟨i, hi, hm⟩ := ih h
      refine ⟨i + 1, by simp; omega, ?_⟩
      rw [List.getElem_cons_succ, List.take_succ_cons, sumR, ← Nat.add_assoc]
      exact hm
theorem sumR_take_lt {r : Nat → Nat} : ∀ {l : List Nat} {i : Nat} (h : i < l.length), sumR r (l.take i) + r l[i] ≤ sumR r l := by
  intro l
  induction l with
  | nil => intro i h; simp at h
  | cons k l ih =>
    intro i h
    cases i with
    | zero => simp [sumR]
    | succ i =>
      rw [List.getElem_cons_succ, List.take_succ_cons, sumR, sumR]
      have := ih (i := i) (by simpa using h)
      omega
/-- what stands inside is one deeper, and has the path -/
theorem inside_path {t : List Dir} (h : checkE t = 0) {j k : Nat} (hj : j < t.length) (hk : k ∈ insideL t j) : ∃ hk : k < t.length, j < k ∧ t[k].path.length = t[j].path.length + 1 ∧ t[k].path.take t[j].path.length = t[j].path := by
  obtain ⟨hy, h1, h2⟩ := (inside_mem h hj).1 hk
  have hne := (stands_of h hy h1).1
  have h3 := (stands_above h hy h1).2
  obtain ⟨q, hq⟩ : ∃ q, t[k].path.length = q + 1 := ⟨t[k].path.length - 1, by have := List.length_pos_iff.2 hne; omega⟩
  rw [aboveI_take t hq] at h2
  obtain ⟨_, h4⟩ := findI_sound h2
  have hl : t[j].path.length = q := by rw [h4, List.length_take]; omega
  refine ⟨hy, ?_, by omega, by rw [hl, h4]⟩
  rw [aboveI_take t hq, h2] at h3
  omega
theorem path_inj {t : List Dir} (h : checkE t = 0) {i j : Nat} (hi : i < t.length) (hj : j < t.length) (he : t[i].path = t[j].path) : i = j := by
  have h1 := findI_self h hi
  rw [he, findI_self h hj] at h1
  omega
structure InDraw (t : List Dir) (j row rows : Nat) (e : Nat × Nat) : Prop where
  lt : e.1 < t.length
  ge : j ≤ e.1
  deep : dep t j ≤ dep t e.1
  pre : ∀ (hj : j < t.length), t[e.1].path.take (dep t j) = t[j].path
  lo : row ≤ e.2
  hi : e.2 < row + rows
theorem draw_in {t : List Dir} (h : checkE t = 0) : ∀ f j row, j < t.length → ∀ e ∈ drawF t f j row, InDraw t j row (rowsF t f j) e := by
  intro f
  induction f with
  | zero => intro j row hj e he; cases he
  | succ f ih =>
    intro j row hj e he
    rw [drawF, List.mem_cons] at he
    rcases he with rfl | he
    · exact ⟨hj, Nat.le_refl _, Nat.le_refl _, fun _ => by simp [dep_at hj], Nat.le_refl _, by have := rowsF_pos t (f + 1) j; show row < row + _; omega⟩
    · obtain ⟨i, hi, hm⟩ := mem_foldD he
      obtain ⟨hk, hjk, hl, hp⟩ := inside_path h hj (List.getElem_mem hi)
      have g := ih _ _ hk e hm
      have hs := sumR_take_lt (r := rowsF t f) hi
      have hrow : rowsF t (f + 1) j = sumR (rowsF t f) (insideL t j) := by
        rw [rowsF, if_neg]
        intro e0; rw [e0] at hi; simp at hi
      have hd : dep t (insideL t j)[i] = dep t j + 1 := by rw [dep_at hk, dep_at hj, hl]
      refine ⟨g.lt, by have := g.ge; omega, by have := g.deep; omega, fun _ => ?_, by have := g.lo; omega, by have := g.hi; omega⟩
      have h1 := congrArg (List.take (dep t j)) (g.pre hk)
      rw [List.take_take, hd, Nat.min_eq_left (by omega)] at h1
      rw [h1, dep_at hj, hp]
/-- two entries, one ahead of the other: not higher, and on one row less deep -/
def Ahead (t : List Dir) (a b : Nat × Nat) : Prop := a.1 ≠ b.1 ∧ (a.2 < b.2 ∨ (a.2 ≤ b.2 ∧ dep t a.1 < dep t b.1))
theorem pair_foldD {t : List Dir} (h : checkE t = 0) {j : Nat} (hj : j < t.length) {f : Nat} (hd : ∀ k row, k < t.length → (drawF t f k row).Pairwise (Ahead t)) :
    ∀ (l : List Nat) (row : Nat), (∀ k ∈ l, k ∈ insideL t j) → l.Nodup → (foldD (drawF t f) (rowsF t f) l row).Pairwise (Ahead t) := by
  intro l
  induction l with
  | nil => intro row _ _; exact List.Pairwise.nil
  | cons k l ih =>
    intro row hm hn
    obtain ⟨hkl, hn⟩ := List.nodup_cons.1 hn
    obtain ⟨hk, hjk, hl, hp⟩ := inside_path h hj (hm k (by simp))
    rw [foldD, List.pairwise_append]
    refine ⟨hd k row hk, ih _ (fun x hx => hm x (by simp [hx])) hn, fun a ha b hb => ?_⟩
    have ga := draw_in h f k row hk a ha
    obtain ⟨i, hi, hb⟩ := mem_foldD hb
    obtain ⟨hk2, _, hl2, hp2⟩ := inside_path h hj (hm l[i] (by simp))
    have gb := draw_in h f _ _ hk2 b hb
    refine ⟨fun e => ?_, .inl (by have := ga.hi; have := gb.lo; omega)⟩
    have e1 := ga.pre hk
    have e2 := gb.pre hk2
    rw [dep_at hk, hl] at e1
    rw [dep_at hk2, hl2] at e2
    simp only [e] at e1
    rw [e2] at e1
    have := path_inj h hk2 hk e1
    exact hkl (this ▸ List.getElem_mem hi)
theorem draw_pair {t : List Dir} (h : checkE t = 0) : ∀ f j row, j < t.length → (drawF t f j row).Pairwise (Ahead t) := by
  intro f
  induction f with
  | zero => intro j row hj; exact List.Pairwise.nil
  | succ f ih =>
    intro j row hj
    rw [drawF, List.pairwise_cons]
    refine ⟨fun b hb => ?_, pair_foldD h hj ih _ _ (fun _ hx => hx) (inside_nodup t j)⟩
    obtain ⟨i, hi, hb⟩ := mem_foldD hb
    obtain ⟨hk, hjk, hl, hp⟩ := inside_path h hj (List.getElem_mem hi)
    have g := draw_in h f _ _ hk b hb
    have hd : dep t (insideL t j)[i] = dep t j + 1 := by rw [dep_at hk, dep_at hj, hl]
    refine ⟨by have := g.ge; show j ≠ b.1; omega, .inr ⟨by have := g.lo; show row ≤ b.2; omega, by have := g.deep; show dep t j < _; omega⟩⟩
/-- each beginning of a path is a directory's -/
theorem ancestor {t : List Dir} (h : checkE t = 0) : ∀ n i (hi : i < t.length) (q : Nat), i < n → q ≤ t[i].path.length → ∃ k, ∃ hk : k < t.length, t[k].path = t[i].path.take q := by
  intro n
  induction n with
  | zero => intro i hi q hn; omega
  | succ n ih =>
    intro i hi q hn hq
    by_cases he : q = t[i].path.length
    · exact ⟨i, hi, by rw [he, List.take_length]⟩
    · have h1 : 1 ≤ i := by
        rcases Nat.eq_zero_or_pos i with h0 | h0
        · subst h0; rw [root_of h hi] at he hq; simp at hq; rw [hq] at he; simp at he
        · exact h0
      obtain ⟨g1, g2⟩ := stands_above h hi h1
      obtain ⟨m, hm⟩ : ∃ m, t[i].path.length = m + 1 := ⟨t[i].path.length - 1, by omega⟩
      obtain ⟨p, hp⟩ : ∃ p : Nat, aboveI t t[i].path = (p : Int) := ⟨(aboveI t t[i].path).toNat, by omega⟩
      have hpi : p < i := by omega
      rw [aboveI_take t hm] at hp
      obtain ⟨hpt, hpp⟩ := findI_sound hp
      have hpl : t[p].path.length = m := by rw [hpp, List.length_take]; omega
      obtain ⟨k, hk, hkk⟩ := ih p hpt q (by omega) (by omega)
      refine ⟨k, hk, ?_⟩
      rw [hkk, hpp, List.take_take, Nat.min_eq_left (by omega)]
theorem draw_all {t : List Dir} (h : checkE t = 0) : ∀ f j row (hj : j < t.length), t.length ≤ j + f → ∀ i (hi : i < t.length), t[j].path.length ≤ t[i].path.length → t[i].path.take t[j].path.length = t[j].path → i ∈ (drawF t f j row).map (·.1) := by
  intro f
  induction f with
  | zero => intro j row hj hf; omega
  | succ f ih =>
    intro j row hj hf i hi hle hpre
    rw [drawF, List.map_cons, List.mem_cons]
    by_cases he : t[i].path.length = t[j].path.length
    · left
      rw [← he, List.take_length] at hpre
      exact path_inj h hi hj hpre
    · right
      obtain ⟨k, hk, hkk⟩ := ancestor h t.length i hi (t[j].path.length + 1) hi (by omega)
      have hkl : t[k].path.length = t[j].path.length + 1 := by rw [hkk, List.length_take]; omega
      have h1 : 1 ≤ k := by
        rcases Nat.eq_zero_or_pos k with h0 | h0
        · subst h0; rw [root_of h hk] at hkl; simp at hkl
        · exact h0
      have hin : k ∈ insideL t j := (inside_mem h hj).2 ⟨hk, h1, by
        rw [aboveI_take t hkl, hkk, List.take_take, Nat.min_eq_left (by omega), hpre, findI_self h hj]⟩
      obtain ⟨_, hjk, _, _⟩ := inside_path h hj hin
      obtain ⟨m, hm, he2⟩ := List.mem_iff_getElem.1 hin
      have hsplit : insideL t j = (insideL t j).take m ++ k :: (insideL t j).drop (m + 1) := by
        rw [← he2, List.getElem_cons_drop, List.take_append_drop]
      rw [hsplit, foldD_append, foldD, List.map_append, List.map_append, List.mem_append, List.mem_append]
      right; left
      exact ih k _ hk (by omega) i hi (by omega) (by rw [hkl, hkk])
theorem draw_root_mem {t : List Dir} (h : checkE t = 0) {i : Nat} (hi : i < t.length) : i ∈ (drawF t t.length 0 0).map (·.1) := by
  have h0 : 0 < t.length := by omega
  have hr := root_of h h0
  refine draw_all h t.length 0 0 h0 (by omega) i hi ?_ ?_
  · rw [hr]; simp
  · rw [hr]; simp
theorem draw_nodup {t : List Dir} (h : checkE t = 0) (h0 : 0 < t.length) : ((drawF t t.length 0 0).map (·.1)).Nodup := by
  rw [List.Nodup, List.pairwise_map]
  exact (draw_pair h _ 0 0 h0).imp fun g => g.1
theorem draw_perm {t : List Dir} (h : checkE t = 0) (h0 : 0 < t.length) : ((drawF t t.length 0 0).map (·.1)).Perm (List.range t.length) := by
  rw [List.perm_ext_iff_of_nodup (draw_nodup h h0) List.nodup_range]
  intro a
  rw [List.mem_range]
  constructor
  · intro hm
    obtain ⟨e, he, rfl⟩ := List.mem_map.1 hm
    exact (draw_in h _ 0 0 h0 e he).lt
  · intro ha; exact draw_root_mem h ha
theorem draw_length {t : List Dir} (h : checkE t = 0) (h0 : 0 < t.length) : (drawF t t.length 0 0).length = t.length := by
  have := (draw_perm h h0).length_eq
  simpa using this
/-- a directory in whose modules nothing stands -/
noncomputable def leafB (t : List Dir) (j : Nat) : Bool := decide (insideL t j = [])
theorem leaf_foldD {t : List Dir} {f : Nat} {l : List Nat} (hd : ∀ k ∈ l, ∀ row, (drawF t f k row).countP (fun e => leafB t e.1) = rowsF t f k) : ∀ (row : Nat), (foldD (drawF t f) (rowsF t f) l row).countP (fun e => leafB t e.1) = sumR (rowsF t f) l := by
  induction l with
  | nil => intro row; rfl
  | cons k l ih =>
    intro row
    rw [foldD, List.countP_append, hd k (by simp), ih (fun k' hk' => hd k' (by simp [hk'])), sumR]
/-- rows are leaves -/
theorem draw_leaf {t : List Dir} (h : checkE t = 0) : ∀ f j row, j < t.length → t.length ≤ j + f → (drawF t f j row).countP (fun e => leafB t e.1) = rowsF t f j := by
  intro f
  induction f with
  | zero => intro j row hj hf; omega
  | succ f ih =>
    intro j row hj hf
    rw [drawF, List.countP_cons, rowsF, leaf_foldD (fun k hk row => by
      obtain ⟨hk', hjk, _, _⟩ := inside_path h hj hk
      exact ih k row hk' (by omega))]
    unfold leafB
    by_cases hl : insideL t j = []
    · simp [hl, sumR]
    · simp [hl]
theorem rows_leaves {t : List Dir} (h : checkE t = 0) (h0 : 0 < t.length) : (List.range t.length).countP (leafB t) = rowsF t t.length 0 := by
  rw [← (draw_perm h h0).countP_eq, List.countP_map]
  exact draw_leaf h t.length 0 0 h0 (by omega)
theorem rows_le {t : List Dir} (h : checkE t = 0) (h0 : 0 < t.length) : rowsF t t.length 0 ≤ t.length := by
  rw [← rows_leaves h h0]
  have := List.countP_le_length (p := leafB t) (l := List.range t.length)
  simpa using this
/-- the last row is used -/
theorem draw_last {t : List Dir} (h : checkE t = 0) : ∀ f j row, j < t.length → t.length ≤ j + f → ∃ e ∈ drawF t f j row, e.2 + 1 = row + rowsF t f j := by
  intro f
  induction f with
  | zero => intro j row hj hf; omega
  | succ f ih =>
    intro j row hj hf
    rw [rowsF]
    by_cases hl : insideL t j = []
    · rw [if_pos hl]
      exact ⟨(j, row), by rw [drawF]; simp, rfl⟩
    · rw [if_neg hl]
      have hlen : 0 < (insideL t j).length := List.length_pos_iff.2 hl
      have hm : (insideL t j).length - 1 < (insideL t j).length := by omega
      obtain ⟨hk, hjk, _, _⟩ := inside_path h hj (List.getElem_mem hm)
      obtain ⟨e, he, hr⟩ := ih (insideL t j)[(insideL t j).length - 1] (row + sumR (rowsF t f) ((insideL t j).take ((insideL t j).length - 1))) hk (by omega)
      have hs := sumR_snoc (rowsF t f) hm
      have hf2 := foldD_snoc (drawF t f) (rowsF t f) hm row
      rw [show (insideL t j).length - 1 + 1 = (insideL t j).length from by omega, List.take_length] at hs hf2
      refine ⟨e, ?_, by omega⟩
      rw [drawF, hf2, List.mem_cons, List.mem_append]
      exact .inr (.inr he)
/-- rows of any directory are few -/
theorem rows_le_at {t : List Dir} (h : checkE t = 0) : ∀ f j, j < t.length → t.length ≤ j + f → rowsF t f j ≤ t.length := by
  intro f j hj hf
  rw [← draw_leaf h f j 0 hj hf]
  refine Nat.le_trans List.countP_le_length ?_
  have hn : ((drawF t f j 0).map (·.1)).Nodup := by
    rw [List.Nodup, List.pairwise_map]
    exact (draw_pair h f j 0 hj).imp fun g => g.1
  have hp : ((drawF t f j 0).map (·.1)).Perm ((List.range t.length).filter fun i => decide (i ∈ (drawF t f j 0).map (·.1))) := by
    rw [List.perm_ext_iff_of_nodup hn (List.Pairwise.filter _ List.nodup_range)]
    intro x
    rw [List.mem_filter, List.mem_range, decide_eq_true_eq]
    refine ⟨fun hx => ⟨?_, hx⟩, fun hx => hx.2⟩
    obtain ⟨e, he, rfl⟩ := List.mem_map.1 hx
    exact (draw_in h f j 0 hj e he).lt
  have h1 := hp.length_eq
  have h2 := List.length_filter_le (fun i => decide (i ∈ (drawF t f j 0).map (·.1))) (List.range t.length)
  rw [List.length_map] at h1
  rw [List.length_range] at h2
  omega
end Go.Proofs.YtkpbnbnfgadkcaaGreatDoor
