/-
  A text's parts between two bars, between blanks, byte by byte, in plain words.
  A version's text read byte by byte, as the document does, in plain words.
  A word of a range read as the document does, in plain words: the first of its signs that stands ahead.
-/
import Derived.Test.YtldjldkejjeamaaGreatDoorSParseP
import Derived.Test.YtldjldkejjeamaaGreatDoorVParse
import Derived.Test.YtldjldkejjeamaaGreatDoorScanName
set_option autoImplicit false
set_option relaxedAutoImplicit false
set_option linter.unusedVariables false
set_option linter.unusedSimpArgs false
namespace Go.Proofs.YtldjldkejjeamaaGreatDoor

def mkB (l : List UInt8) : ByteArray := ⟨l.toArray⟩
theorem mkB_data (l : List UInt8) : (mkB l).data.toList = l := rfl
theorem mkB_self (s : ByteArray) : mkB s.data.toList = s := bytes_ext rfl
/-- parts between two bars; what stands ahead is the first one's beginning -/
def altL : List UInt8 → List UInt8 → List (List UInt8)
  | acc, [] => [acc]
  | acc, [c] => [acc ++ [c]]
  | acc, c :: d :: t => if c = 124 ∧ d = 124 then acc :: altL [] t else altL (acc ++ [c]) (d :: t)
def wrdL : List UInt8 → List UInt8 → List (List UInt8)
  | acc, [] => [acc]
  | acc, c :: t => if c = 32 then acc :: wrdL [] t else wrdL (acc ++ [c]) t
theorem altL_bars (acc t : List UInt8) : altL acc (124 :: 124 :: t) = acc :: altL [] t := by rw [altL, if_pos ⟨rfl, rfl⟩]
theorem altL_next {acc : List UInt8} {c d : UInt8} {t : List UInt8} (h : ¬ (c = 124 ∧ d = 124)) : altL acc (c :: d :: t) = altL (acc ++ [c]) (d :: t) := by rw [altL, if_neg h]
theorem altL_other {acc : List UInt8} {c : UInt8} {t : List UInt8} (h : c ≠ 124) : altL acc (c :: t) = altL (acc ++ [c]) t := by
  cases t with
  | nil => rfl
  | cons d t => exact altL_next fun e => h e.1
theorem wrdL_blank (acc t : List UInt8) : wrdL acc (32 :: t) = acc :: wrdL [] t := by rw [wrdL, if_pos rfl]
theorem wrdL_next {acc : List UInt8} {c : UInt8} {t : List UInt8} (h : c ≠ 32) : wrdL acc (c :: t) = wrdL (acc ++ [c]) t := by rw [wrdL, if_neg h]

theorem occ_bars (c d : UInt8) (t : List UInt8) : Lib.occAt (c :: d :: t) [124, 124] 0 = decide (c = 124 ∧ d = 124) := by
  unfold Lib.occAt
  rw [List.drop_zero, List.isPrefixOf_cons_cons, List.isPrefixOf_cons_cons, List.isPrefixOf_nil_left, Bool.and_true]
  by_cases h1 : c = 124
  · by_cases h2 : d = 124
    · subst h1 h2; rfl
    · have : (124 == d) = false := by simp; exact fun e => h2 e.symm
      rw [this]; simp [h2]
  · have : (124 == c) = false := by simp; exact fun e => h1 e.symm
    rw [this]; simp [h1]
theorem occ_succ (c : UInt8) (t sub : List UInt8) (i : Nat) : Lib.occAt (c :: t) sub (i + 1) = Lib.occAt t sub i := rfl
theorem altL_none : ∀ (l acc : List UInt8), (∀ j, Lib.occAt l [124, 124] j = false) → altL acc l = [acc ++ l] := by
  intro l
  induction l with
  | nil => intro acc _; rw [altL, List.append_nil]
  | cons c t ih =>
    intro acc h
    cases t with
    | nil => rfl
    | cons d t =>
      have h0 := h 0
      rw [occ_bars, decide_eq_false_iff_not] at h0
      rw [altL_next h0, ih _ fun j => (occ_succ c _ _ j).symm.trans (h (j + 1)), List.append_assoc]
      rfl
theorem altL_hit : ∀ (i : Nat) (l acc : List UInt8), (∀ j, j < i → Lib.occAt l [124, 124] j = false) → Lib.occAt l [124, 124] i = true → altL acc l = (acc ++ l.take i) :: altL [] (l.drop (i + 2)) := by
  intro i
  induction i with
  | zero =>
    intro l acc _ h
    match l, h with
    | [], h => exact absurd h (by decide)
    | [c], h => exact absurd h (by simp [Lib.occAt])
    | c :: d :: t, h =>
      rw [occ_bars, decide_eq_true_eq] at h
      obtain ⟨rfl, rfl⟩ := h
      rw [altL_bars]; simp
  | succ i ih =>
    intro l acc hn h
    match l, hn, h with
    | [], _, h => exact absurd h (by simp [Lib.occAt])
    | [c], _, h => exact absurd h (by simp [Lib.occAt])
    | c :: d :: t, hn, h =>
      have h0 := hn 0 (Nat.succ_pos i)
      rw [occ_bars, decide_eq_false_iff_not] at h0
      rw [altL_next h0, ih (d :: t) (acc ++ [c]) (fun j hj => (occ_succ c _ _ j).symm.trans (hn (j + 1) (by omega))) h, List.append_assoc]
      rfl
theorem splitK_bars : ∀ (k : Nat) (l : List UInt8), l.length ≤ k → Lib.splitK [124, 124] 0 k l = altL [] l := by
  intro k
  induction k with
  | zero =>
    intro l h
    obtain rfl := List.eq_nil_of_length_eq_zero (Nat.le_zero.1 h)
    rfl
  | succ k ih =>
    intro l h
    unfold Lib.splitK
    rcases Lib.index_spec l [124, 124] with ⟨h1, h2⟩ | ⟨i, h1, h2, h3, h4⟩
    · rw [h1, if_pos (by decide), altL_none l [] fun j => ?_]
      · rfl
      · by_cases hj : j ≤ l.length
        · exact h2 j hj
        · unfold Lib.occAt; rw [List.drop_eq_nil_of_le (by omega)]; rfl
    · have hr := Lib.occAt_room h3
      have hr' : i + 2 ≤ l.length := by rcases hr with h | h; exact h; cases h
      rw [h1, if_neg (by simp), altL_hit i l [] h4 h3, List.nil_append]
      have e : ((i : Nat) : Int).toNat = i := by omega
      rw [e, Nat.add_zero]
      show l.take i :: Lib.splitK [124, 124] 0 k (l.drop (i + 2)) = _
      rw [ih _ (by rw [List.length_drop]; omega)]
theorem occ_blank (c : UInt8) (t : List UInt8) : Lib.occAt (c :: t) [32] 0 = decide (c = 32) := by
  unfold Lib.occAt
  rw [List.drop_zero, List.isPrefixOf_cons_cons, List.isPrefixOf_nil_left, Bool.and_true]
  by_cases h1 : c = 32
  · subst h1; rfl
  · have : (32 == c) = false := by simp; exact fun e => h1 e.symm
    rw [this]; simp [h1]
theorem wrdL_none : ∀ (l acc : List UInt8), (∀ j, Lib.occAt l [32] j = false) → wrdL acc l = [acc ++ l] := by
  intro l
  induction l with
  | nil => intro acc _; rw [wrdL, List.append_nil]
  | cons c t ih =>
    intro acc h
    have h0 := h 0
    rw [occ_blank, decide_eq_false_iff_not] at h0
    rw [wrdL_next h0, ih _ fun j => (occ_succ c _ _ j).symm.trans (h (j + 1)), List.append_assoc]
    rfl
theorem wrdL_hit : ∀ (i : Nat) (l acc : List UInt8), (∀ j, j < i → Lib.occAt l [32] j = false) → Lib.occAt l [32] i = true → wrdL acc l = (acc ++ l.take i) :: wrdL [] (l.drop (i + 1)) := by
  intro i
  induction i with
  | zero =>
    intro l acc _ h
    match l, h with
    | [], h => exact absurd h (by decide)
    | c :: t, h =>
      rw [occ_blank, decide_eq_true_eq] at h
      subst h
      rw [wrdL_blank]; simp
  | succ i ih =>
    intro l acc hn h
    match l, hn, h with
    | [], _, h => exact absurd h (by simp [Lib.occAt])
    | c :: t, hn, h =>
      have h0 := hn 0 (Nat.succ_pos i)
      rw [occ_blank, decide_eq_false_iff_not] at h0
      rw [wrdL_next h0, ih t (acc ++ [c]) (fun j hj => (occ_succ c _ _ j).symm.trans (hn (j + 1) (by omega))) h, List.append_assoc]
      rfl
theorem splitK_blank : ∀ (k : Nat) (l : List UInt8), l.length ≤ k → Lib.splitK [32] 0 k l = wrdL [] l := by
  intro k
  induction k with
  | zero =>
    intro l h
    obtain rfl := List.eq_nil_of_length_eq_zero (Nat.le_zero.1 h)
    rfl
  | succ k ih =>
    intro l h
    unfold Lib.splitK
    rcases Lib.index_spec l [32] with ⟨h1, h2⟩ | ⟨i, h1, h2, h3, h4⟩
    · rw [h1, if_pos (by decide), wrdL_none l [] fun j => ?_]
      · rfl
      · by_cases hj : j ≤ l.length
        · exact h2 j hj
        · unfold Lib.occAt; rw [List.drop_eq_nil_of_le (by omega)]; rfl
    · have hr := Lib.occAt_room h3
      have hr' : i + 1 ≤ l.length := by rcases hr with h | h; exact h; cases h
      rw [h1, if_neg (by simp), wrdL_hit i l [] h4 h3, List.nil_append]
      have e : ((i : Nat) : Int).toNat = i := by omega
      rw [e, Nat.add_zero]
      show l.take i :: Lib.splitK [32] 0 k (l.drop (i + 1)) = _
      rw [ih _ (by rw [List.length_drop]; omega)]
theorem map_back (l : List ByteArray) : l = (l.map (·.data.toList)).map mkB := by
  rw [List.map_map]
  exact ((List.map_congr_left fun s _ => mkB_self s).trans (List.map_id _)).symm
theorem spl_bars (s : ByteArray) : spl s barsB = (altL [] s.data.toList).map mkB := by
  rw [map_back (spl s barsB)]
  unfold spl
  rw [Lib.splitB_data]
  show (Lib.splitK [124, 124] 0 s.size s.data.toList).map mkB = _
  rw [splitK_bars _ _ (by rw [size_data s]; exact Nat.le_refl _)]
theorem spl_blank (s : ByteArray) : spl s blankB = (wrdL [] s.data.toList).map mkB := by
  rw [map_back (spl s blankB)]
  unfold spl
  rw [Lib.splitB_data]
  show (Lib.splitK [32] 0 s.size s.data.toList).map mkB = _
  rw [splitK_blank _ _ (by rw [size_data s]; exact Nat.le_refl _)]
/-- a part without bars, and what stands behind it -/
theorem altL_part : ∀ (p acc t : List UInt8), (124 : UInt8) ∉ p → altL acc (p ++ 124 :: 124 :: t) = (acc ++ p) :: altL [] t := by
  intro p
  induction p with
  | nil => intro acc t _; rw [List.nil_append, altL_bars, List.append_nil]
  | cons c p ih =>
    intro acc t h
    rw [List.mem_cons, not_or] at h
    rw [List.cons_append, altL_other (fun e => h.1 e.symm), ih _ _ h.2, List.append_assoc]
    rfl
theorem altL_last : ∀ (p acc : List UInt8), (124 : UInt8) ∉ p → altL acc p = [acc ++ p] := by
  intro p
  induction p with
  | nil => intro acc _; rw [altL, List.append_nil]
  | cons c p ih =>
    intro acc h
    rw [List.mem_cons, not_or] at h
    rw [altL_other (fun e => h.1 e.symm), ih _ h.2, List.append_assoc]
    rfl
theorem wrdL_part : ∀ (p acc t : List UInt8), (32 : UInt8) ∉ p → wrdL acc (p ++ 32 :: t) = (acc ++ p) :: wrdL [] t := by
  intro p
  induction p with
  | nil => intro acc t _; rw [List.nil_append, wrdL_blank, List.append_nil]
  | cons c p ih =>
    intro acc t h
    rw [List.mem_cons, not_or] at h
    rw [List.cons_append, wrdL_next (fun e => h.1 e.symm), ih _ _ h.2, List.append_assoc]
    rfl
theorem wrdL_last : ∀ (p acc : List UInt8), (32 : UInt8) ∉ p → wrdL acc p = [acc ++ p] := by
  intro p
  induction p with
  | nil => intro acc _; rw [wrdL, List.append_nil]
  | cons c p ih =>
    intro acc h
    rw [List.mem_cons, not_or] at h
    rw [wrdL_next (fun e => h.1 e.symm), ih _ h.2, List.append_assoc]
    rfl
theorem wrdL_append : ∀ (s acc t : List UInt8), wrdL acc (s ++ 32 :: t) = wrdL acc s ++ wrdL [] t := by
  intro s
  induction s with
  | nil => intro acc t; rw [List.nil_append, wrdL_blank, wrdL]; rfl
  | cons c s ih =>
    intro acc t
    by_cases h : c = 32
    · subst h; rw [List.cons_append, wrdL_blank, wrdL_blank, ih, List.cons_append]
    · rw [List.cons_append, wrdL_next h, wrdL_next h, ih]
theorem altL_begin : ∀ (s acc : List UInt8), ∃ p l, altL acc s = (acc ++ p) :: l := by
  intro s
  induction s with
  | nil => intro acc; exact ⟨[], [], by rw [altL, List.append_nil]⟩
  | cons c s ih =>
    intro acc
    cases s with
    | nil => exact ⟨[c], [], rfl⟩
    | cons d t =>
      by_cases h : c = 124 ∧ d = 124
      · obtain ⟨rfl, rfl⟩ := h; exact ⟨[], _, by rw [altL_bars, List.append_nil]⟩
      · obtain ⟨p, l, e⟩ := ih (acc ++ [c])
        exact ⟨[c] ++ p, l, by rw [altL_next h, e, List.append_assoc]⟩
/-- parts without any bar: behind two bars more the parts of what stands there -/
theorem altL_append : ∀ (n : Nat) (s acc t : List UInt8), s.length ≤ n → (∀ p ∈ altL acc s, (124 : UInt8) ∉ p) → altL acc (s ++ 124 :: 124 :: t) = altL acc s ++ altL [] t := by
  intro n
  induction n with
  | zero =>
    intro s acc t hn _
    obtain rfl := List.eq_nil_of_length_eq_zero (Nat.le_zero.1 hn)
    rw [List.nil_append, altL_bars, altL]; rfl
  | succ n ih =>
    intro s acc t hn h
    match s, hn, h with
    | [], _, _ => rw [List.nil_append, altL_bars, altL]; rfl
    | [c], _, h =>
      have hc : c ≠ 124 := fun e => h _ (by rw [altL]; exact List.mem_singleton.2 rfl) (by simp [e])
      rw [List.cons_append, List.nil_append, altL_other hc, altL_bars]; rfl
    | c :: d :: s, hn, h =>
      by_cases hb : c = 124 ∧ d = 124
      · obtain ⟨rfl, rfl⟩ := hb
        rw [List.cons_append, List.cons_append, altL_bars, altL_bars, ih s [] t (by simp at hn; omega) (fun p hp => h p (by rw [altL_bars]; exact List.mem_cons_of_mem _ hp)), List.cons_append]
      · have hc : c ≠ 124 := fun e => by
          obtain ⟨p, l, q⟩ := altL_begin (d :: s) (acc ++ [c])
          exact h _ (by rw [altL_next hb, q]; exact List.mem_cons_self) (by simp [e])
        rw [List.cons_append, altL_other hc, altL_other hc, ih (d :: s) (acc ++ [c]) t (by simp at hn ⊢; omega) (fun p hp => h p (by rw [altL_other hc]; exact hp))]
end Go.Proofs.YtldjldkejjeamaaGreatDoor
set_option autoImplicit false
set_option relaxedAutoImplicit false
set_option linter.unusedVariables false
set_option linter.unusedSimpArgs false
namespace Go.Proofs.YtldjldkejjeamaaGreatDoor

/-- the numbers read so far, and the one that is being read -/
def pStep (st : Option (List Int × Int)) (c : UInt8) : Option (List Int × Int) := match st with
  | none => none
  | some (l, x) => if c = 46 then some (l ++ [x], 0) else if (48 ≤ c.toNat ∧ c.toNat ≤ 57) ∧ x ≤ 999 then some (l, 10 * x + ((c.toNat : Int) - 48)) else none
def pAll (s : List UInt8) : Option (List Int × Int) := s.foldl pStep (some ([], 0))
def dStep (o : Option Int) (c : UInt8) : Option Int := match o with
  | none => none
  | some x => if (48 ≤ c.toNat ∧ c.toNat ≤ 57) ∧ x ≤ 999 then some (10 * x + ((c.toNat : Int) - 48)) else none
theorem pStep_dead : ∀ s : List UInt8, s.foldl pStep none = none := by
  intro s
  induction s with
  | nil => rfl
  | cons c s ih => rw [List.foldl_cons]; exact ih
theorem dStep_dead : ∀ s : List UInt8, s.foldl dStep none = none := by
  intro s
  induction s with
  | nil => rfl
  | cons c s ih => rw [List.foldl_cons]; exact ih
theorem pStep_digits : ∀ (s : List UInt8) (l : List Int) (x y : Int), s.foldl dStep (some x) = some y → s.foldl pStep (some (l, x)) = some (l, y) := by
  intro s
  induction s with
  | nil => intro l x y h; cases h; rfl
  | cons c s ih =>
    intro l x y h
    rw [List.foldl_cons] at h ⊢
    by_cases hc : (48 ≤ c.toNat ∧ c.toNat ≤ 57) ∧ x ≤ 999
    · have e : dStep (some x) c = some (10 * x + ((c.toNat : Int) - 48)) := if_pos hc
      have n : c ≠ 46 := by rintro rfl; exact absurd hc.1.1 (by decide)
      have e' : pStep (some (l, x)) c = some (l, 10 * x + ((c.toNat : Int) - 48)) := by unfold pStep; simp only [if_neg n, if_pos hc]
      rw [e] at h
      rw [e']
      exact ih _ _ _ h
    · have e : dStep (some x) c = none := if_neg hc
      rw [e, dStep_dead] at h
      cases h
theorem digits_read : ∀ k : Fin 1000, (itoaB (k.val : Int)).data.toList.foldl dStep (some 0) = some (k.val : Int) := by decide +kernel
theorem digits_of {n : Int} (h0 : 0 ≤ n) (h1 : n ≤ 999) (l : List Int) : (itoaB n).data.toList.foldl pStep (some (l, 0)) = some (l, n) := by
  have := digits_read ⟨n.toNat, by omega⟩
  have e : ((n.toNat : Nat) : Int) = n := by omega
  simp only [e] at this
  exact pStep_digits _ l 0 n this
theorem pStep_dot (l : List Int) (x : Int) : pStep (some (l, x)) 46 = some (l ++ [x], 0) := by simp [pStep]
theorem txtL_list {v : Ver} (h : v.ok = true) : v.txt.data.toList = (itoaB v.major).data.toList ++ (46 :: ((itoaB v.minor).data.toList ++ (46 :: (itoaB v.patch).data.toList))) := by
  unfold Ver.txt verText
  have hv : verB v.major v.minor v.patch = true := h
  rw [if_pos hv]
  simp [dotB]
theorem pAll_txt {v : Ver} (h : v.ok = true) : pAll v.txt.data.toList = some ([v.major, v.minor], v.patch) := by
  obtain ⟨⟨a0, a1⟩, ⟨b0, b1⟩, c0, c1⟩ := verB_iff.1 (show verB v.major v.minor v.patch = true from h)
  rw [txtL_list h]
  unfold pAll
  rw [List.foldl_append, digits_of a0 a1, List.foldl_cons, pStep_dot, List.foldl_append, digits_of b0 b1, List.foldl_cons, pStep_dot, digits_of c0 c1]
  rfl
theorem pAll_yes {s : ByteArray} {x y z : Int} (h : pAll s.data.toList = some ([x, y], z)) (ht : verText x y z = s) : vparse s = some ⟨x, y, z⟩ := by
  have hv : verB x y z = true := by
    cases hb : verB x y z with
    | true => rfl
    | false =>
      unfold verText at ht
      rw [hb, if_neg (by decide : ¬ (false = true))] at ht
      rw [← ht, show pAll (⟨#[]⟩ : ByteArray).data.toList = some ([], 0) from rfl] at h
      cases h
  exact vparse_some (v := ⟨x, y, z⟩) hv ht.symm
theorem pAll_other {s : ByteArray} {x y z : Int} (h : pAll s.data.toList = some ([x, y], z)) (ht : verText x y z ≠ s) : vparse s = none :=
  vparse_no fun v hv e => by
    rw [e, pAll_txt hv] at h
    simp only [Option.some.injEq, Prod.mk.injEq, List.cons.injEq, and_true] at h
    obtain ⟨⟨rfl, rfl⟩, rfl⟩ := h
    exact ht e.symm
theorem pAll_none {s : ByteArray} (h : pAll s.data.toList = none) : vparse s = none :=
  vparse_no fun v hv e => by rw [e, pAll_txt hv] at h; cases h
theorem pAll_len {s : ByteArray} {l : List Int} {x : Int} (h : pAll s.data.toList = some (l, x)) (hl : l.length ≠ 2) : vparse s = none :=
  vparse_no fun v hv e => by rw [e, pAll_txt hv] at h; cases h; exact hl rfl
theorem pAll_empty {s : ByteArray} {x y z : Int} (h : pAll s.data.toList = some ([x, y], z)) : s.size ≠ 0 := fun e => by
  rw [size_data s] at e
  rw [List.eq_nil_of_length_eq_zero e, show pAll [] = some ([], 0) from rfl] at h
  cases h
theorem pAll_bounds : ∀ (s : List UInt8) (l : List Int) (x : Int), pAll s = some (l, x) → (0 ≤ x ∧ x ≤ 9999) ∧ (∀ y ∈ l, 0 ≤ y ∧ y ≤ 9999) ∧ l.length ≤ s.length := by
  intro s
  unfold pAll
  rw [← List.reverse_reverse s]
  generalize s.reverse = r
  induction r with
  | nil => intro l x h; cases h; exact ⟨⟨by decide, by decide⟩, fun y hy => by simp at hy, Nat.le_refl _⟩
  | cons c r ih =>
    intro l x h
    rw [List.reverse_cons, List.foldl_append] at h
    cases hq : r.reverse.foldl pStep (some ([], 0)) with
    | none => rw [hq] at h; cases h
    | some q =>
      obtain ⟨m, y⟩ := q
      obtain ⟨i1, i2, i3⟩ := ih m y hq
      rw [hq] at h
      simp only [List.length_reverse, List.length_cons] at i3 ⊢
      have h' : pStep (some (m, y)) c = some (l, x) := h
      by_cases hc : c = 46
      · subst hc
        rw [pStep_dot] at h'
        cases h'
        refine ⟨⟨by decide, by decide⟩, fun z hz => ?_, by simp; omega⟩
        rcases List.mem_append.1 hz with hz | hz
        · exact i2 z hz
        · rw [List.mem_singleton.1 hz]; exact i1
      · unfold pStep at h'
        simp only [if_neg hc] at h'
        split at h'
        · rename_i hd
          cases h'
          exact ⟨⟨by omega, by omega⟩, i2, by omega⟩
        · cases h'
end Go.Proofs.YtldjldkejjeamaaGreatDoor
set_option autoImplicit false
set_option relaxedAutoImplicit false
set_option linter.unusedVariables false
set_option linter.unusedSimpArgs false
namespace Go.Proofs.YtldjldkejjeamaaGreatDoor

def sgs : List (List UInt8) := [[60, 61], [62, 61], [60], [62], [61], [94], [126]]
def refSign (s : List UInt8) : List UInt8 := (sgs.find? fun g => g.isPrefixOf s).getD []
noncomputable def refWord (s : ByteArray) : Option Rk :=
  if s = ⟨#[42]⟩ then some (0, lastR) else match vparse (mkB (s.data.toList.drop (refSign s.data.toList).length)) with
    | none => none
    | some v => signRk (refSign s.data.toList) v

theorem isSign_iff {c : UInt8} : signsL.contains c = true ↔ c = 60 ∨ c = 62 ∨ c = 61 ∨ c = 94 ∨ c = 126 := by
  unfold signsL
  simp [List.contains_cons]
theorem refSign_cases (s : List UInt8) : (refSign s = [60, 61] ∨ refSign s = [62, 61] ∨ refSign s = [60] ∨ refSign s = [62] ∨ refSign s = [61] ∨ refSign s = [94] ∨ refSign s = [126] ∨ refSign s = []) := by
  unfold refSign
  cases h : sgs.find? (fun g => g.isPrefixOf s) with
  | none => simp
  | some g =>
    have := List.mem_of_find?_eq_some h
    unfold sgs at this
    simp only [List.mem_cons, List.not_mem_nil, or_false] at this
    simp only [Option.getD_some]
    rcases this with h | h | h | h | h | h | h <;> simp [h]
theorem refSign_prefix (s : List UInt8) : refSign s <+: s := by
  unfold refSign
  cases h : sgs.find? (fun g => g.isPrefixOf s) with
  | none => exact List.nil_prefix
  | some g =>
    have := List.find?_some h
    exact List.isPrefixOf_iff_prefix.1 this
theorem refSign_all (s : List UInt8) : ∀ c ∈ refSign s, signsL.contains c = true := by
  intro c hc
  rcases refSign_cases s with h | h | h | h | h | h | h | h <;> rw [h] at hc <;> simp at hc
  all_goals (first | (rcases hc with rfl | rfl <;> decide) | (subst hc; decide) | skip)
theorem vparse_head {l : List UInt8} {c : UInt8} (hc : signsL.contains c = true) : vparse (mkB (c :: l)) = none :=
  vparse_no fun v hv e => by
    have e' : c :: l = v.txt.data.toList := by rw [← e]; rfl
    rw [txtL_list hv] at e'
    obtain ⟨⟨a0, a1⟩, _⟩ := verB_iff.1 (show verB v.major v.minor v.patch = true from hv)
    obtain ⟨_, hd⟩ := itoa_read a0 a1
    cases hi : (itoaB v.major).data.toList with
    | nil =>
      have := digits_of a0 a1 []
      rw [hi] at this hd
      rw [hi] at e'
      simp only [List.nil_append, List.cons.injEq] at e'
      rw [e'.1] at hc
      exact absurd hc (by decide)
    | cons d r =>
      rw [hi] at e' hd
      simp only [List.cons_append, List.cons.injEq] at e'
      rw [← e'.1] at hd
      simp only [List.all_cons, Bool.and_eq_true, decide_eq_true_eq] at hd
      rcases isSign_iff.1 hc with rfl | rfl | rfl | rfl | rfl <;> exact absurd hd.1 (by decide)
theorem bare_drop (s : ByteArray) : ∃ g : List UInt8, s.data.toList = g ++ (bareB s).data.toList ∧ (signB s).data.toList = g ∧ (∀ c ∈ g, signsL.contains c = true) ∧ (∀ c r, (bareB s).data.toList = c :: r → signsL.contains c = false) := by
  have hb : (bareB s).data.toList = s.data.toList.dropWhile (fun c => signsL.contains c) := rfl
  refine ⟨s.data.toList.takeWhile (fun c => signsL.contains c), ?_, ?_, ?_, ?_⟩
  · rw [hb, List.takeWhile_append_dropWhile]
  · have e : (signB s).data.toList = s.data.toList.take (s.size - (bareB s).size) := by unfold signB; rw [Lib.extract_from_zero]
    rw [e, size_data s, size_data (bareB s), hb]
    have h2 := List.takeWhile_append_dropWhile (p := fun c => signsL.contains c) (l := s.data.toList)
    have h3 := congrArg List.length h2
    rw [List.length_append] at h3
    conv => lhs; rw [← h2]
    rw [List.take_append_of_le_length (by rw [h2]; omega), List.take_of_length_le (by rw [h2]; omega)]
  · intro c hc
    exact List.all_eq_true.1 (List.all_takeWhile (p := fun c => signsL.contains c) (l := s.data.toList)) c hc
  · intro c r h
    rw [hb] at h
    have := List.head?_dropWhile_not (fun c => signsL.contains c) s.data.toList
    rw [h] at this
    simpa using this
theorem sign_found {g r : List UInt8} (hr : ∀ c t, r = c :: t → signsL.contains c = false) (hg : g ∈ sgs) : refSign (g ++ r) = g := by
  have key : ∀ c t, r = c :: t → c ≠ 61 := fun c t h e => by have := hr c t h; rw [e] at this; exact absurd this (by decide)
  unfold sgs at hg
  simp only [List.mem_cons, List.not_mem_nil, or_false] at hg
  unfold refSign sgs
  rcases hg with rfl | rfl | rfl | rfl | rfl | rfl | rfl
  · simp [List.find?, List.isPrefixOf]
  · simp [List.find?, List.isPrefixOf]
  all_goals
    cases r with
    | nil => simp [List.find?, List.isPrefixOf]
    | cons c t =>
      have h1 : (61 == c) = false := by simp; exact fun e => key c t rfl e.symm
      simp [List.find?, List.isPrefixOf, h1]
theorem sign_mem {g : List UInt8} {v : Ver} (hg : g ≠ []) {x : Rk} (h : signRk g v = some x) : g ∈ sgs := by
  unfold signRk at h
  unfold sgs
  repeat' split at h
  all_goals (first | cases h | skip)
  all_goals simp_all
theorem refWord_word (s : ByteArray) : refWord s = wordF s := by
  unfold refWord wordF
  by_cases h0 : s = ⟨#[42]⟩
  · rw [if_pos h0, if_pos h0]
  · rw [if_neg h0, if_neg h0]
    obtain ⟨g, e1, e2, e3, e4⟩ := bare_drop s
    rw [e2, e1]
    generalize hr : (bareB s).data.toList = r at *
    have hb : bareB s = mkB r := by rw [← hr]; exact (mkB_self _).symm
    rw [hb]
    obtain ⟨q, hq⟩ := refSign_prefix (g ++ r)
    have hall := refSign_all (g ++ r)
    by_cases hl : (refSign (g ++ r)).length < g.length
    · -- a sign stands behind it yet
      have hpre : refSign (g ++ r) <+: g := by
        have h1 : refSign (g ++ r) <+: g ++ r := ⟨q, hq⟩
        exact List.prefix_of_prefix_length_le h1 (List.prefix_append g r) (by omega)
      obtain ⟨t, ht⟩ := hpre
      have hd : (g ++ r).drop (refSign (g ++ r)).length = t ++ r := by
        conv => lhs; rw [show g ++ r = refSign (g ++ r) ++ (t ++ r) from by rw [← List.append_assoc, ht]]
        have : refSign (refSign (g ++ r) ++ (t ++ r)) = refSign (g ++ r) := by rw [← List.append_assoc, ht]
        rw [this, List.drop_left]
      rw [hd]
      cases t with
      | nil => rw [List.append_nil] at ht; rw [ht] at hl; omega
      | cons c t =>
        have hc : signsL.contains c = true := e3 c (by rw [← ht]; simp)
        rw [List.cons_append, vparse_head hc]
        cases hv : vparse (mkB r) with
        | none => rfl
        | some v =>
          simp only
          cases hs : signRk g v with
          | none => rfl
          | some x =>
            have hg : g ≠ [] := fun e => by rw [e] at hl; simp at hl
            rw [sign_found e4 (sign_mem hg hs)] at hl
            omega
    · have hle : (refSign (g ++ r)).length ≤ g.length := by
        refine Classical.byContradiction fun hgt => ?_
        have h1 : g <+: refSign (g ++ r) := List.prefix_of_prefix_length_le (List.prefix_append g r) ⟨q, hq⟩ (by omega)
        obtain ⟨t, ht⟩ := h1
        cases t with
        | nil => rw [List.append_nil] at ht; rw [← ht] at hgt; omega
        | cons c t =>
          have h2 : r = c :: (t ++ q) := by
            rw [← ht, List.append_assoc] at hq
            exact (List.append_cancel_left hq).symm
          have h3 := e4 c _ h2
          rw [hall c (by rw [← ht]; simp)] at h3
          cases h3
      have heq : refSign (g ++ r) = g := by
        have h1 : refSign (g ++ r) <+: g := List.prefix_of_prefix_length_le ⟨q, hq⟩ (List.prefix_append g r) hle
        exact h1.eq_of_length (by omega)
      rw [heq, List.drop_left]
      cases vparse (mkB r) with
      | none => rfl
      | some v => rfl
end Go.Proofs.YtldjldkejjeamaaGreatDoor
