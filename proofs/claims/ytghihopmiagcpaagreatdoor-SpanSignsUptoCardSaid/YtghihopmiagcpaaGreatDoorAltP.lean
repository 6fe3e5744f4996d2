/-
  A text's parts between two bars, between blanks, byte by byte, in plain words.
-/
import Derived.Test.YtghihopmiagcpaaGreatDoorSParseP
set_option autoImplicit false
set_option relaxedAutoImplicit false
set_option linter.unusedVariables false
set_option linter.unusedSimpArgs false
namespace Go.Proofs.YtghihopmiagcpaaGreatDoor

def mkB (l : List UInt8) : ByteArray := ⟨l.toArray⟩
theorem mkB_data (l : List UInt8) : (mkB l).data.toList = l := rfl
theorem mkB_self (s : ByteArray) : mkB s.data.toList = s := bytes_ext rfl
/-- parts between two bars; what stands ahead is the first one's beginning -/
def altL : List UInt8 → List UInt8 → List (List UInt8)
  | acc, [] => [acc]
  | acc, [c] => [acc ++ [c]]
  | acc, c :: d :: t => if c = 124 ∧ d = 124 then acc :: altL [] t else altL (acc ++ [c]) (d :: t)
def wrdL : List UInt8 → List UInt8 → List (List UInt8)
  | acc, [] => [acc]
  | acc, c :: t => if c = 32 then acc :: wrdL [] t else wrdL (acc ++ [c]) t
theorem altL_bars (acc t : List UInt8) : altL acc (124 :: 124 :: t) = acc :: altL [] t := by rw [altL, if_pos ⟨rfl, rfl⟩]
theorem altL_next {acc : List UInt8} {c d : UInt8} {t : List UInt8} (h : ¬ (c = 124 ∧ d = 124)) : altL acc (c :: d :: t) = altL (acc ++ [c]) (d :: t) := by rw [altL, if_neg h]
theorem altL_other {acc : List UInt8} {c : UInt8} {t : List UInt8} (h : c ≠ 124) : altL acc (c :: t) = altL (acc ++ [c]) t := by
  cases t with
  | nil => rfl
  | cons d t => exact altL_next fun e => h e.1
theorem wrdL_blank (acc t : List UInt8) : wrdL acc (32 :: t) = acc :: wrdL [] t := by rw [wrdL, if_pos rfl]
theorem wrdL_next {acc : List UInt8} {c : UInt8} {t : List UInt8} (h : c ≠ 32) : wrdL acc (c :: t) = wrdL (acc ++ [c]) t := by rw [wrdL, if_neg h]

theorem occ_bars (c d : UInt8) (t : List UInt8) : Lib.occAt (c :: d :: t) [124, 124] 0 = decide (c = 124 ∧ d = 124) := by
  unfold Lib.occAt
  rw [List.drop_zero, List.isPrefixOf_cons_cons, List.isPrefixOf_cons_cons, List.isPrefixOf_nil_left, Bool.and_true]
  by_cases h1 : c = 124
  · by_cases h2 : d = 124
    · subst h1 h2; rfl
    · have : (124 == d) = false := by simp; exact fun e => h2 e.symm
      rw [this]; simp [h2]
  · have : (124 == c) = false := by simp; exact fun e => h1 e.symm
    rw [this]; simp [h1]
theorem occ_succ (c : UInt8) (t sub : List UInt8) (i : Nat) : Lib.occAt (c :: t) sub (i + 1) = Lib.occAt t sub i := rfl
theorem altL_none : ∀ (l acc : List UInt8), (∀ j, Lib.occAt l [124, 124] j = false) → altL acc l = [acc ++ l] := by
  intro l
  induction l with
  | nil => intro acc _; rw [altL, List.append_nil]
  | cons c t ih =>
    intro acc h
    cases t with
    | nil => rfl
    | cons d t =>
      have h0 := h 0
      rw [occ_bars, decide_eq_false_iff_not] at h0
      rw [altL_next h0, ih _ fun j => (occ_succ c _ _ j).symm.trans (h (j + 1)), List.append_assoc]
      rfl
theorem altL_hit : ∀ (i : Nat) (l acc : List UInt8), (∀ j, j < i → Lib.occAt l [124, 124] j = false) → Lib.occAt l [124, 124] i = true → altL acc l = (acc ++ l.take i) :: altL [] (l.drop (i + 2)) := by
  intro i
  induction i with
  | zero =>
    intro l acc _ h
    match l, h with
    | [], h => exact absurd h (by decide)
    | [c], h => exact absurd h (by simp [Lib.occAt])
    | c :: d :: t, h =>
      rw [occ_bars, decide_eq_true_eq] at h
      obtain ⟨rfl, rfl⟩ := h
      rw [altL_bars]; simp
  | succ i ih =>
    intro l acc hn h
    match l, hn, h with
    | [], _, h => exact absurd h (by simp [Lib.occAt])
    | [c], _, h => exact absurd h (by simp [Lib.occAt])
    | c :: d :: t, hn, h =>
      have h0 := hn 0 (Nat.succ_pos i)
      rw [occ_bars, decide_eq_false_iff_not] at h0
      rw [altL_next h0, ih (d :: t) (acc ++ [c]) (fun j hj => (occ_succ c _ _ j).symm.trans (hn (j + 1) (by omega))) h, List.append_assoc]
      rfl
theorem splitK_bars : ∀ (k : Nat) (l : List UInt8), l.length ≤ k → Lib.splitK [124, 124] 0 k l = altL [] l := by
  intro k
  induction k with
  | zero =>
    intro l h
    obtain rfl := List.eq_nil_of_length_eq_zero (Nat.le_zero.1 h)
    rfl
  | succ k ih =>
    intro l h
    unfold Lib.splitK
    rcases Lib.index_spec l [124, 124] with ⟨h1, h2⟩ | ⟨i, h1, h2, h3, h4⟩
    · rw [h1, if_pos (by decide), altL_none l [] fun j => ?_]
      · rfl
      · by_cases hj : j ≤ l.length
        · exact h2 j hj
        · unfold Lib.occAt; rw [List.drop_eq_nil_of_le (by omega)]; rfl
    · have hr := Lib.occAt_room h3
      have hr' : i + 2 ≤ l.length := by rcases hr with h | h; exact h; cases h
      rw [h1, if_neg (by simp), altL_hit i l [] h4 h3, List.nil_append]
      have e : ((i : Nat) : Int).toNat = i := by omega
      rw [e, Nat.add_zero]
      show l.take i :: Lib.splitK [124, 124] 0 k (l.drop (i + 2)) = _
      rw [ih _ (by rw [List.length_drop]; omega)]
theorem occ_blank (c : UInt8) (t : List UInt8) : Lib.occAt (c :: t) [32] 0 = decide (c = 32) := by
  unfold Lib.occAt
  rw [List.drop_zero, List.isPrefixOf_cons_cons, List.isPrefixOf_nil_left, Bool.and_true]
  by_cases h1 : c = 32
  · subst h1; rfl
  · have : (32 == c) = false := by simp; exact fun e => h1 e.symm
    rw [this]; simp [h1]
theorem wrdL_none : ∀ (l acc : List UInt8), (∀ j, Lib.occAt l [32] j = false) → wrdL acc l = [acc ++ l] := by
  intro l
  induction l with
  | nil => intro acc _; rw [wrdL, List.append_nil]
  | cons c t ih =>
    intro acc h
    have h0 := h 0
    rw [occ_blank, decide_eq_false_iff_not] at h0
    rw [wrdL_next h0, ih _ fun j => (occ_succ c _ _ j).symm.trans (h (j + 1)), List.append_assoc]
    rfl
theorem wrdL_hit : ∀ (i : Nat) (l acc : List UInt8), (∀ j, j < i → Lib.occAt l [32] j = false) → Lib.occAt l [32] i = true → wrdL acc l = (acc ++ l.take i) :: wrdL [] (l.drop (i + 1)) := by
  intro i
  induction i with
  | zero =>
    intro l acc _ h
    match l, h with
    | [], h => exact absurd h (by decide)
    | c :: t, h =>
      rw [occ_blank, decide_eq_true_eq] at h
      subst h
      rw [wrdL_blank]; simp
  | succ i ih =>
    intro l acc hn h
    match l, hn, h with
    | [], _, h => exact absurd h (by simp [Lib.occAt])
    | c :: t, hn, h =>
      have h0 := hn 0 (Nat.succ_pos i)
      rw [occ_blank, decide_eq_false_iff_not] at h0
      rw [wrdL_next h0, ih t (acc ++ [c]) (fun j hj => (occ_succ c _ _ j).symm.trans (hn (j + 1) (by omega))) h, List.append_assoc]
      rfl
theorem splitK_blank : ∀ (k : Nat) (l : List UInt8), l.length ≤ k → Lib.splitK [32] 0 k l = wrdL [] l := by
  intro k
  induction k with
  | zero =>
    intro l h
    obtain rfl := List.eq_nil_of_length_eq_zero (Nat.le_zero.1 h)
    rfl
  | succ k ih =>
    intro l h
    unfold Lib.splitK
    rcases Lib.index_spec l [32] with ⟨h1, h2⟩ | ⟨i, h1, h2, h3, h4⟩
    · rw [h1, if_pos (by decide), wrdL_none l [] fun j => ?_]
      · rfl
      · by_cases hj : j ≤ l.length
        · exact h2 j hj
        · unfold Lib.occAt; rw [List.drop_eq_nil_of_le (by omega)]; rfl
    · have hr := Lib.occAt_room h3
      have hr' : i + 1 ≤ l.length := by rcases hr with h | h; exact h; cases h
      rw [h1, if_neg (by simp), wrdL_hit i l [] h4 h3, List.nil_append]
      have e : ((i : Nat) : Int).toNat = i := by omega
      rw [e, Nat.add_zero]
      show l.take i :: Lib.splitK [32] 0 k (l.drop (i + 1)) = _
      rw [ih _ (by rw [List.length_drop]; omega)]
theorem map_back (l : List ByteArray) : l = (l.map (·.data.toList)).map mkB := by
  rw [List.map_map]
  exact ((List.map_congr_left fun s _ => mkB_self s).trans (List.map_id _)).symm
theorem spl_bars (s : ByteArray) : spl s barsB = (altL [] s.data.toList).map mkB := by
  rw [map_back (spl s barsB)]
  unfold spl
  rw [Lib.splitB_data]
  show (Lib.splitK [124, 124] 0 s.size s.data.toList).map mkB = _
  rw [splitK_bars _ _ (by rw [size_data s]; exact Nat.le_refl _)]
theorem spl_blank (s : ByteArray) : spl s blankB = (wrdL [] s.data.toList).map mkB := by
  rw [map_back (spl s blankB)]
  unfold spl
  rw [Lib.splitB_data]
  show (Lib.splitK [32] 0 s.size s.data.toList).map mkB = _
  rw [splitK_blank _ _ (by rw [size_data s]; exact Nat.le_refl _)]
/-- a part without bars, and what stands behind it -/
theorem altL_part : ∀ (p acc t : List UInt8), (124 : UInt8) ∉ p → altL acc (p ++ 124 :: 124 :: t) = (acc ++ p) :: altL [] t := by
  intro p
  induction p with
  | nil => intro acc t _; rw [List.nil_append, altL_bars, List.append_nil]
  | cons c p ih =>
    intro acc t h
    rw [List.mem_cons, not_or] at h
    rw [List.cons_append, altL_other (fun e => h.1 e.symm), ih _ _ h.2, List.append_assoc]
    rfl
theorem altL_last : ∀ (p acc : List UInt8), (124 : UInt8) ∉ p → altL acc p = [acc ++ p] := by
  intro p
  induction p with
  | nil => intro acc _; rw [altL, List.append_nil]
  | cons c p ih =>
    intro acc h
    rw [List.mem_cons, not_or] at h
    rw [altL_other (fun e => h.1 e.symm), ih _ h.2, List.append_assoc]
    rfl
theorem wrdL_part : ∀ (p acc t : List UInt8), (32 : UInt8) ∉ p → wrdL acc (p ++ 32 :: t) = (acc ++ p) :: wrdL [] t := by
  intro p
  induction p with
  | nil => intro acc t _; rw [List.nil_append, wrdL_blank, List.append_nil]
  | cons c p ih =>
    intro acc t h
    rw [List.mem_cons, not_or] at h
    rw [List.cons_append, wrdL_next (fun e => h.1 e.symm), ih _ _ h.2, List.append_assoc]
    rfl
theorem wrdL_last : ∀ (p acc : List UInt8), (32 : UInt8) ∉ p → wrdL acc p = [acc ++ p] := by
  intro p
  induction p with
  | nil => intro acc _; rw [wrdL, List.append_nil]
  | cons c p ih =>
    intro acc h
    rw [List.mem_cons, not_or] at h
    rw [wrdL_next (fun e => h.1 e.symm), ih _ h.2, List.append_assoc]
    rfl
theorem wrdL_append : ∀ (s acc t : List UInt8), wrdL acc (s ++ 32 :: t) = wrdL acc s ++ wrdL [] t := by
  intro s
  induction s with
  | nil => intro acc t; rw [List.nil_append, wrdL_blank, wrdL]; rfl
  | cons c s ih =>
    intro acc t
    by_cases h : c = 32
    · subst h; rw [List.cons_append, wrdL_blank, wrdL_blank, ih, List.cons_append]
    · rw [List.cons_append, wrdL_next h, wrdL_next h, ih]
theorem altL_begin : ∀ (s acc : List UInt8), ∃ p l, altL acc s = (acc ++ p) :: l := by
  intro s
  induction s with
  | nil => intro acc; exact ⟨[], [], by rw [altL, List.append_nil]⟩
  | cons c s ih =>
    intro acc
    cases s with
    | nil => exact ⟨[c], [], rfl⟩
    | cons d t =>
      by_cases h : c = 124 ∧ d = 124
      · obtain ⟨rfl, rfl⟩ := h; exact ⟨[], _, by rw [altL_bars, List.append_nil]⟩
      · obtain ⟨p, l, e⟩ := ih (acc ++ [c])
        exact ⟨[c] ++ p, l, by rw [altL_next h, e, List.append_assoc]⟩
/-- parts without any bar: behind two bars more the parts of what stands there -/
theorem altL_append : ∀ (n : Nat) (s acc t : List UInt8), s.length ≤ n → (∀ p ∈ altL acc s, (124 : UInt8) ∉ p) → altL acc (s ++ 124 :: 124 :: t) = altL acc s ++ altL [] t := by
  intro n
  induction n with
  | zero =>
    intro s acc t hn _
    obtain rfl := List.eq_nil_of_length_eq_zero (Nat.le_zero.1 hn)
    rw [List.nil_append, altL_bars, altL]; rfl
  | succ n ih =>
    intro s acc t hn h
    match s, hn, h with
    | [], _, _ => rw [List.nil_append, altL_bars, altL]; rfl
    | [c], _, h =>
      have hc : c ≠ 124 := fun e => h _ (by rw [altL]; exact List.mem_singleton.2 rfl) (by simp [e])
      rw [List.cons_append, List.nil_append, altL_other hc, altL_bars]; rfl
    | c :: d :: s, hn, h =>
      by_cases hb : c = 124 ∧ d = 124
      · obtain ⟨rfl, rfl⟩ := hb
        rw [List.cons_append, List.cons_append, altL_bars, altL_bars, ih s [] t (by simp at hn; omega) (fun p hp => h p (by rw [altL_bars]; exact List.mem_cons_of_mem _ hp)), List.cons_append]
      · have hc : c ≠ 124 := fun e => by
          obtain ⟨p, l, q⟩ := altL_begin (d :: s) (acc ++ [c])
          exact h _ (by rw [altL_next hb, q]; exact List.mem_cons_self) (by simp [e])
        rw [List.cons_append, altL_other hc, altL_other hc, ih (d :: s) (acc ++ [c]) t (by simp at hn ⊢; omega) (fun p hp => h p (by rw [altL_other hc]; exact hp))]
end Go.Proofs.YtghihopmiagcpaaGreatDoor
