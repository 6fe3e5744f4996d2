/-
  A text's parts between two bars, between blanks, byte by byte, in plain words.
  A version's text read byte by byte, as the document does, in plain words.
  A word of a range read as the document does, in plain words: the first of its signs that stands ahead.
-/
import Derived.Test.YthbnmehbhpakaaaGreatDoorOn16
import Derived.Test.YthbnmehbhpakaaaGreatDoorOn08
set_option autoImplicit false
set_option relaxedAutoImplicit false
set_option linter.unusedVariables false
set_option linter.unusedSimpArgs false
namespace Go.Proofs.YthbnmehbhpakaaaGreatDoor

def mkB (l : List UInt8) : ByteArray := ⟨l.toArray⟩
theorem mkB_data (l : List UInt8) : (mkB l).data.toList = l := rfl
theorem mkB_self (s : ByteArray) : mkB s.data.toList = s := bytes_ext rfl
/-- parts between two bars; what stands ahead is the first one's beginning -/
def altL : List UInt8 → List UInt8 → List (List UInt8)
  | acc, [] => [acc]
  | acc, [c] => [acc ++ [c]]
  | acc, c :: d :: t => if c = 124 ∧ d = 124 then acc :: altL [] t else altL (acc ++ [c]) (d :: t)
def wrdL : List UInt8 → List UInt8 → List (List UInt8)
  | acc, [] => [acc]
  | acc, c :: t => if c = 32 then acc :: wrdL [] t else wrdL (acc ++ [c]) t
theorem altL_bars (acc t : List UInt8) : altL acc (124 :: 124 :: t) = acc :: altL [] t := by rw [altL, if_pos ⟨rfl, rfl⟩]
theorem altL_next {acc : List UInt8} {c d : UInt8} {t : List UInt8} (h : ¬ (c = 124 ∧ d = 124)) : altL acc (c :: d :: t) = altL (acc ++ [c]) (d :: t) := by rw [altL, if_neg h]
theorem altL_other {acc : List UInt8} {c : UInt8} {t : List UInt8} (h : c ≠ 124) : altL acc (c :: t) = altL (acc ++ [c]) t := by
  cases t with
  | nil => rfl
  | cons d t => exact altL_next fun e => h e.1
theorem wrdL_blank (acc t : List UInt8) : wrdL acc (32 :: t) = acc :: wrdL [] t := by rw [wrdL, if_pos rfl]
theorem wrdL_next {acc : List UInt8} {c : UInt8} {t : List UInt8} (h : c ≠ 32) : wrdL acc (c :: t) = wrdL (acc ++ [c]) t := by rw [wrdL, if_neg h]

theorem occ_bars (c d : UInt8) (t : List UInt8) : Lib.occAt (c :: d :: t) [124, 124] 0 = decide (c = 124 ∧ d = 124) := by
  unfold Lib.occAt
  rw [List.drop_zero, List.isPrefixOf_cons_cons, List.isPrefixOf_cons_cons, List.isPrefixOf_nil_left, Bool.and_true]
  by_cases h1 : c = 124
  · by_cases h2 : d = 124
    · subst h1 h2; rfl
    · have : (124 == d) = false := by simp; exact fun e => h2 e.symm
      rw [this]; simp [h2]
  · have : (124 == c) = false := by simp; exact fun e => h1 e.symm
    rw [this]; simp [h1]
theorem occ_succ (c : UInt8) (t sub : List UInt8) (i : Nat) : Lib.occAt (c :: t) sub (i + 1) = Lib.occAt t sub i := rfl
theorem altL_none : ∀ (l acc : List UInt8), (∀ j, Lib.occAt l [124, 124] j = false) → altL acc l = [acc ++ l] := by
  intro l
  induction l with
  | nil => intro acc _; rw [altL, List.append_nil]
  | cons c t ih =>
    intro acc h
    cases t with
    | nil => rfl
    | cons d t =>
      have h0 := h 0
      rw [occ_bars, decide_eq_false_iff_not] at h0
      rw [altL_next h0, ih _ fun j => (occ_succ c _ _ j).symm.trans (h (j + 1)), List.append_assoc]
      rfl
theorem altL_hit : ∀ (i : Nat) (l acc : List UInt8), (∀ j, j < i → Lib.occAt l [124, 124] j = false) → Lib.occAt l [124, 124] i = true → altL acc l = (acc ++ l.take i) :: altL [] (l.drop (i + 2)) := by
  intro i
  induction i with
  | zero =>
    intro l acc _ h
    match l, h with
    | [], h => exact absurd h (by decide)
    | [c], h => exact absurd h (by simp [Lib.occAt])
    | c :: d :: t, h =>
      rw [occ_bars, decide_eq_true_eq] at h
      obtain ⟨rfl, rfl⟩ := h
      rw [altL_bars]; simp
  | succ i ih =>
    intro l acc hn h
    match l, hn, h with
    | [], _, h => exact absurd h (by simp [Lib.occAt])
    | [c], _, h => exact absurd h (by simp [Lib.occAt])
    | c :: d :: t, hn, h =>
      have h0 := hn 0 (Nat.succ_pos i)
      rw [occ_bars, decide_eq_false_iff_not] at h0
      rw [altL_next h0, ih (d :: t) (acc ++ [c]) (fun j hj => (occ_succ c _ _ j).symm.trans (hn (j + 1) (by omega))) h, List.append_assoc]
      rfl
theorem splitK_bars : ∀ (k : Nat) (l : List UInt8), l.length ≤ k → Lib.splitK [124, 124] 0 k l = altL [] l := by
  intro k
  induction k with
  | zero =>
    intro l h
    obtain rfl := List.eq_nil_of_length_eq_zero (Nat.le_zero.1 h)
    rfl
  | succ k ih =>
    intro l h
    unfold Lib.splitK
    rcases Lib.index_spec l [124, 124] with ⟨h1, h2⟩ | ⟨i, h1, h2, h3, h4⟩
    · rw [h1, if_pos (by decide), altL_none l [] fun j => ?_]
      · rfl
      · by_cases hj : j ≤ l.length
        · exact h2 j hj
        · unfold Lib.occAt; rw [List.drop_eq_nil_of_le (by omega)]; rfl
    · have hr := Lib.occAt_room h3
      have hr' : i + 2 ≤ l.length := by rcases hr with h | h; exact h; cases h
      rw [h1, if_neg (by simp), altL_hit i l [] h4 h3, List.nil_append]
      have e : ((i : Nat) : Int).toNat = i := by omega
      rw [e, Nat.add_zero]
      show l.take i :: Lib.splitK [124, 124] 0 k (l.drop (i + 2)) = _
      rw [ih _ (by rw [List.length_drop]; omega)]
theorem occ_blank (c : UInt8) (t : List UInt8) : Lib.occAt (c :: t) [32] 0 = decide (c = 32) := by
  unfold Lib.occAt
  rw [List.drop_zero, List.isPrefixOf_cons_cons, List.isPrefixOf_nil_left, Bool.and_true]
  by_cases h1 : c = 32
  · subst h1; rfl
  · have : (32 == c) = false := by simp; exact fun e => h1 e.symm
    rw [this]; simp [h1]
theorem wrdL_none : ∀ (l acc : List UInt8), (∀ j, Lib.occAt l [32] j = false) → wrdL acc l = [acc ++ l] := by
  intro l
  induction l with
  | nil => intro acc _; rw [wrdL, List.append_nil]
  | cons c t ih =>
    intro acc h
    have h0 := h 0
    rw [occ_blank, decide_eq_false_iff_not] at h0
    rw [wrdL_next h0, ih _ fun j => (occ_succ c _ _ j).symm.trans (h (j + 1)), List.append_assoc]
    rfl
theorem wrdL_hit : ∀ (i : Nat) (l acc : List UInt8), (∀ j, j < i → Lib.occAt l [32] j = false) → Lib.occAt l [32] i = true → wrdL acc l = (acc ++ l.take i) :: wrdL [] (l.drop (i + 1)) := by
  intro i
  induction i with
  | zero =>
    intro l acc _ h
    match l, h with
    | [], h => exact absurd h (by decide)
    | c :: t, h =>
      rw [occ_blank, decide_eq_true_eq] at h
      subst h
      rw [wrdL_blank]; simp
  | succ i ih =>
    intro l acc hn h
    match l, hn, h with
    | [], _, h => exact absurd h (by simp [Lib.occAt])
    | c :: t, hn, h =>
      have h0 := hn 0 (Nat.succ_pos i)
      rw [occ_blank, decide_eq_false_iff_not] at h0
      rw [wrdL_next h0, ih t (acc ++ [c]) (fun j hj => (occ_succ c _ _ j).symm.trans (hn (j + 1) (by omega))) h, List.append_assoc]
      rfl
theorem splitK_blank : ∀ (k : Nat) (l : List UInt8), l.length ≤ k → Lib.splitK [32] 0 k l = wrdL [] l := by
  intro k
  induction k with
  | zero =>
    intro l h
    obtain rfl := List.eq_nil_of_length_eq_zero (Nat.le_zero.1 h)
    rfl
  | succ k ih =>
    intro l h
    unfold Lib.splitK
    rcases Lib.index_spec l [32] with ⟨h1, h2⟩ | ⟨i, h1, h2, h3, h4⟩
    · rw [h1, if_pos (by decide), wrdL_none l [] fun j => ?_]
      · rfl
      · by_cases hj : j ≤ l.length
        · exact h2 j hj
        · unfold Lib.occAt; rw [List.drop_eq_nil_of_le (by omega)]; rfl
    · have hr := Lib.occAt_room h3
      have hr' : i + 1 ≤ l.length := by rcases hr with h | h; exact h; cases h
      rw [h1, if_neg (by simp), wrdL_hit i l [] h4 h3, List.nil_append]
      have e : ((i : Nat) : Int).toNat = i := by omega
      rw [e, Nat.add_zero]
      show l.take i :: Lib.splitK [32] 0 k (l.drop (i + 1)) = _
      rw [ih _ (by rw [List.length_drop]; omega)]
theorem map_back (l : List ByteArray) : l = (l.map (·.data.toList)).map mkB := by
  rw [List.map_map]
  exact ((List.map_congr_left fun s _ => mkB_self s).trans (List.map_id _)).symm
theorem spl_bars (s : ByteArray) : spl s barsB = (altL [] s.data.toList).map mkB := by
  rw [map_back (spl s barsB)]
  unfold spl
  rw [Lib.splitB_data]
  show (Lib.splitK [124, 124] 0 s.size s.data.toList).map mkB = _
  rw [splitK_bars _ _ (by rw [size_data s]; exact Nat.le_refl _)]
theorem spl_blank (s : ByteArray) : spl s blankB = (wrdL [] s.data.toList).map mkB := by
  rw [map_back (spl s blankB)]
  unfold spl
  rw [Lib.splitB_data]
  show (Lib.splitK [32] 0 s.size s.data.toList).map mkB = _
  rw [splitK_blank _ _ (by rw [size_data s]; exact Nat.le_refl _)]
/-- a part without bars, and what stands behind it -/
theorem altL_part : ∀ (p acc t : List UInt8), (124 : UInt8) ∉ p → altL acc (p ++ 124 :: 124 :: t) = (acc ++ p) :: altL [] t := by
  intro p
  induction p with
  | nil => intro acc t _; rw [List.nil_append, altL_bars, List.append_nil]
  | cons c p ih =>
    intro acc t h
    rw [List.mem_cons, not_or] at h
    rw [List.cons_append, altL_other (fun e => h.1 e.symm), ih _ _ h.2, List.append_assoc]
    rfl
theorem altL_last : ∀ (p acc : List UInt8), (124 : UInt8) ∉ p → altL acc p = [acc ++ p] := by
  intro p
  induction p with
  | nil => intro acc _; rw [altL, List.append_nil]
  | cons c p ih =>
    intro acc h
    rw [List.mem_cons, not_or] at h
    rw [altL_other (fun e => h.1 e.symm), ih _ h.2, List.append_assoc]
    rfl
theorem wrdL_part : ∀ (p acc t : List UInt8), (32 : UInt8) ∉ p → wrdL acc (p ++ 32 :: t) = (acc ++ p) :: wrdL [] t := by
  intro p
  induction p with
  | nil => intro acc t _; rw [List.nil_append, wrdL_blank, List.append_nil]
  | cons c p ih =>
    intro acc t h
    rw [List.mem_cons, not_or] at h
    rw [List.cons_append, wrdL_next (fun e => h.1 e.symm), ih _ _ h.2, List.append_assoc]
    rfl
theorem wrdL_last : ∀ (p acc : List UInt8), (32 : UInt8) ∉ p → wrdL acc p = [acc ++ p] := by
  intro p
  induction p with
  | nil => intro acc _; rw [wrdL, List.append_nil]
  | cons c p ih =>
    intro acc h
    rw [List.mem_cons, not_or] at h
    rw [wrdL_next (fun e => h.1 e.symm), ih _ h.2, List.append_assoc]
    rfl
theorem wrdL_append : ∀ (s acc t : List UInt8), wrdL acc (s ++ 32 :: t) = wrdL acc s ++ wrdL [] t := by
  intro s
  induction s with
  | nil => intro acc t; rw [List.nil_append, wrdL_blank, wrdL]; rfl
  | cons c s ih =>
    intro acc t
    by_cases h : c = 32
    · subst h; rw [List.cons_append, wrdL_blank, wrdL_blank, ih, List.cons_append]
    · rw [List.cons_append, wrdL_next h, wrdL_next h, ih]
end Go.Proofs.YthbnmehbhpakaaaGreatDoor
set_option autoImplicit false
set_option relaxedAutoImplicit false
set_option linter.unusedVariables false
set_option linter.unusedSimpArgs false
namespace Go.Proofs.YthbnmehbhpakaaaGreatDoor

/-- the numbers read so far, and the one that is being read -/
def pStep (st : Option (List Int × Int)) (c : UInt8) : Option (List Int × Int) := match st with
  | none => none
  | some (l, x) => if c = 46 then some (l ++ [x], 0) else if (48 ≤ c.toNat ∧ c.toNat ≤ 57) ∧ x ≤ 999 then some (l, 10 * x + ((c.toNat : Int) - 48)) else none
def pAll (s : List UInt8) : Option (List Int × Int) := s.foldl pStep (some ([], 0))
def dStep (o : Option Int) (c : UInt8) : Option Int := match o with
  | none => none
  | some x => if (48 ≤ c.toNat ∧ c.toNat ≤ 57) ∧ x ≤ 999 then some (10 * x + ((c.toNat : Int) - 48)) else none
theorem dStep_dead : ∀ s : List UInt8, s.foldl dStep none = none := by
  intro s
  induction s with
  | nil => rfl
  | cons c s ih => rw [List.foldl_cons]; exact ih
theorem pStep_digits : ∀ (s : List UInt8) (l : List Int) (x y : Int), s.foldl dStep (some x) = some y → s.foldl pStep (some (l, x)) = some (l, y) := by
  intro s
  induction s with
  | nil => intro l x y h; cases h; rfl
  | cons c s ih =>
    intro l x y h
    rw [List.foldl_cons] at h ⊢
    by_cases hc : (48 ≤ c.toNat ∧ c.toNat ≤ 57) ∧ x ≤ 999
    · have e : dStep (some x) c = some (10 * x + ((c.toNat : Int) - 48)) := if_pos hc
      have n : c ≠ 46 := by rintro rfl; exact absurd hc.1.1 (by decide)
      have e' : pStep (some (l, x)) c = some (l, 10 * x + ((c.toNat : Int) - 48)) := by unfold pStep; simp only [if_neg n, if_pos hc]
      rw [e] at h
      rw [e']
      exact ih _ _ _ h
    · have e : dStep (some x) c = none := if_neg hc
      rw [e, dStep_dead] at h
      cases h
theorem digits_read : ∀ k : Fin 1000, (itoaB (k.val : Int)).data.toList.foldl dStep (some 0) = some (k.val : Int) := by decide +kernel
theorem digits_of {n : Int} (h0 : 0 ≤ n) (h1 : n ≤ 999) (l : List Int) : (itoaB n).data.toList.foldl pStep (some (l, 0)) = some (l, n) := by
  have := digits_read ⟨n.toNat, by omega⟩
  have e : ((n.toNat : Nat) : Int) = n := by omega
  simp only [e] at this
  exact pStep_digits _ l 0 n this
theorem pStep_dot (l : List Int) (x : Int) : pStep (some (l, x)) 46 = some (l ++ [x], 0) := by simp [pStep]
theorem txtL_list {v : Ver} (h : v.ok = true) : v.txt.data.toList = (itoaB v.major).data.toList ++ (46 :: ((itoaB v.minor).data.toList ++ (46 :: (itoaB v.patch).data.toList))) := by
  unfold Ver.txt verText
  have hv : verB v.major v.minor v.patch = true := h
  rw [if_pos hv]
  simp [dotB]
theorem pAll_txt {v : Ver} (h : v.ok = true) : pAll v.txt.data.toList = some ([v.major, v.minor], v.patch) := by
  obtain ⟨⟨a0, a1⟩, ⟨b0, b1⟩, c0, c1⟩ := verB_iff.1 (show verB v.major v.minor v.patch = true from h)
  rw [txtL_list h]
  unfold pAll
  rw [List.foldl_append, digits_of a0 a1, List.foldl_cons, pStep_dot, List.foldl_append, digits_of b0 b1, List.foldl_cons, pStep_dot, digits_of c0 c1]
  rfl
end Go.Proofs.YthbnmehbhpakaaaGreatDoor
set_option autoImplicit false
set_option relaxedAutoImplicit false
set_option linter.unusedVariables false
set_option linter.unusedSimpArgs false
namespace Go.Proofs.YthbnmehbhpakaaaGreatDoor

theorem isSign_iff {c : UInt8} : signsL.contains c = true ↔ c = 60 ∨ c = 62 ∨ c = 61 ∨ c = 94 ∨ c = 126 := by
  unfold signsL
  simp [List.contains_cons]
end Go.Proofs.YthbnmehbhpakaaaGreatDoor
