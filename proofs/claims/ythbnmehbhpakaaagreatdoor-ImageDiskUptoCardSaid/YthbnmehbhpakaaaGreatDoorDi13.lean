/-
  What stands in a directory's modules, by names: the order, and lists that are in it. tree.Inside's two closures: the last name, and the order. A row of places sorted by slices.SortFunc under tree.Inside's order.
-/
import Derived.Test.YthbnmehbhpakaaaGreatDoorDi07
import Derived.Test.YthbnmehbhpakaaaGreatDoorDi12
import Derived.Shelf.Strings.Builder1
import Derived.Shelf.Strings.Builder2
import Derived.Shelf.Strings.OnBuilder
import Derived.Shelf.Strings.Trim
import Derived.Shelf.Small.Utf8
import Derived.Shelf.Small.Bits
import Derived.Shelf.Small.Strs
import Derived.Shelf.Small.Wraps
import Derived.Shelf.Strings.BuilderF
import Derived.Shelf.Strings.BuilderK
import Derived.Shelf.Utf8.RuneCount
import Derived.Shelf.Strings.Builder2Cap
import Derived.Shelf.Strconv.Atoi
import Derived.Shelf.Strconv.Itoa0
import Derived.Shelf.Strconv.Itoa1
import Derived.Shelf.LaysM
import Derived.Shelf.Strconv.Itoa2
import Derived.Shelf.Strconv.Itoa3
import Derived.Shelf.Strconv.AtoiErrFast
import Derived.Shelf.Strconv.ParseIntEmpty
import Derived.Shelf.Strconv.AtoiFail
import Derived.Shelf.Strconv.Clone
import Derived.Shelf.Strconv.SyntaxError
import Derived.Shelf.LaysC
import Derived.Shelf.Strconv.ToError
import Derived.Shelf.Strconv.Lower
import Derived.Shelf.Strconv.ParseUint10
import Derived.Shelf.Strconv.ParseUint10Empty
import Derived.Shelf.Strconv.ParseUint10Any
import Derived.Shelf.Strconv.ParseInt10
import Derived.Shelf.Strconv.AtoiLong
import Derived.Shelf.Strconv.AtoiInnerAll
import Derived.Shelf.Strconv.RangeError
import Derived.Shelf.Strconv.ToErrorRange
import Derived.Shelf.Strconv.AtoiAll
import Derived.Shelf.Strings.Search1
import Derived.Shelf.Strings.Search2
import Derived.Shelf.Strings.Search3
import Derived.Shelf.Strings.Count
import Derived.Shelf.Strings.Shaped
import Derived.Shelf.Strings.LastIndex
import Derived.Shelf.Strings.Prefix
import Derived.Shelf.Strings.Split
import Derived.Shelf.Strings.SplitShaped
import Derived.Shelf.Unicode.Decode
import Derived.Shelf.Strings.Runes
import Derived.Shelf.Strings.RuneCount
import Derived.Shelf.Strings.AsciiSet
import Derived.Shelf.Strings.Explode
import Derived.Shelf.Unicode.DecodeSlow
import Derived.Shelf.Unicode.DecodeAny
import Derived.Shelf.Unicode.DecodeLast
import Derived.Shelf.Slices.Equal
import Derived.Ground.Names2Prog
import Derived.Shelf.Slices.SearchI
import Derived.Shelf.Slices.Empties2
import Derived.Ground.SlsfProg
import Derived.Shelf.SlSortCmp.Insertion
import Derived.Shelf.SlSortCmp.SiftDown1
import Derived.Shelf.SlSortCmp.HeapSort1
import Derived.Shelf.SlSortCmp.Insertion1
import Derived.Shelf.SlSortCmp.Median1
import Derived.Shelf.SlSortCmp.Pivot1
import Derived.Shelf.SlSortCmp.ReverseRange1
import Derived.Shelf.SlSortCmp.PartialInsertion1
import Derived.Shelf.SlSortCmp.PartitionEqual1
import Derived.Shelf.SlSortCmp.Partition1
import Derived.Shelf.SlSortCmp.Pdq1
import Derived.Shelf.SlSortCmp.Whole1
import Derived.Shelf.SlSortCmp.NoneTotal
import Derived.Test.YthbnmehbhpakaaaGreatDoorProg
import Derived.Test.YthbnmehbhpakaaaGreatDoorDi04
import Derived.Sort.LotA
import Derived.Sort.Walk0
import Derived.Deep.RegionHeld3
set_option autoImplicit false
set_option relaxedAutoImplicit false
set_option linter.unusedVariables false
set_option linter.unusedSimpArgs false
namespace Go.Proofs.YthbnmehbhpakaaaGreatDoor
open Go.Rows Go.RowKit Go.Shelf Go.Sort

/-- the last name of a path: where it lies -/
theorem last_cell2 {w : World} {S : Nat → Prop} {p : List ByteArray} {pA : Option Addr} {n pa q : Nat} (hp : SlV rStr w S p (.slice pA n pa)) (hq : p.length = q + 1) :
    ∃ g u, pA = some ⟨g, u, none⟩ ∧ g < w.heap.size ∧ w.cell? ⟨g, u + q, none⟩ = some (.string (lastN p)) ∧ (lastN p).size ≤ maxLen := by
  have hq' : q < p.length := by omega
  obtain ⟨g, u, cs', rfl, _, hg, ⟨rfl, hs⟩, hc⟩ := hp.elem (List.getElem?_eq_getElem hq')
  have := hc 0 _ rfl
  simp only [rStr, Nat.add_zero, Nat.mul_one] at this
  have e : lastN p = p[q] := by unfold lastN; rw [hq, List.getD_eq_getElem?_getD, show q + 1 - 1 = q from rfl, List.getElem?_eq_getElem hq']; rfl
  exact ⟨g, u, rfl, hg, by rw [e]; exact this, by rw [e]; exact hs⟩

theorem cb_spec : ∀ a b : List UInt8, (Lib.compareBytes a b < 0 ↔ a < b) ∧ (Lib.compareBytes a b = 0 ↔ a = b)
  | [], [] => by simp [Lib.compareBytes]
  | [], _ :: _ => by simp [Lib.compareBytes]
  | _ :: _, [] => by simp [Lib.compareBytes]
  | x :: a, y :: b => by
    have ih := cb_spec a b
    rw [Lib.compareBytes, List.cons_lt_cons_iff, List.cons.injEq]
    by_cases h1 : x < y
    · have hne : x ≠ y := fun e => by subst e; exact UInt8.lt_irrefl x h1
      simp [h1, hne]
    · by_cases h2 : y < x
      · have hne : x ≠ y := fun e => by subst e; exact UInt8.lt_irrefl x h2
        simp [h1, h2, hne]
      · have he : x = y := UInt8.le_antisymm (UInt8.not_lt.1 h2) (UInt8.not_lt.1 h1)
        simp [h1, h2, he, ih.1, ih.2]
def orI (x y : Int) : Int := if x ≠ 0 then x else y
def cfN (nm : Nat → List UInt8) (x y : Nat) : Int := orI (Lib.compareBytes (nm x) (nm y)) (Lib.compareInt x y)
/-- by the name, then by the place -/
def ltN (nm : Nat → List UInt8) (x y : Nat) : Bool := decide (nm x < nm y) || (decide (nm x = nm y) && decide (x < y))
theorem cfN_lt (nm : Nat → List UInt8) (x y : Nat) : decide (cfN nm x y < 0) = ltN nm x y := by
  have hs := cb_spec (nm x) (nm y)
  unfold cfN orI ltN
  by_cases h0 : Lib.compareBytes (nm x) (nm y) = 0
  · have he := hs.2.1 h0
    rw [if_neg (by simpa using h0), he]
    have : ¬ nm y < nm y := List.lt_irrefl _
    rw [decide_eq_false this, decide_eq_true (rfl : nm y = nm y), Bool.false_or, Bool.true_and]
    unfold Lib.compareInt
    by_cases hxy : x < y
    · rw [if_pos (by omega), decide_eq_true hxy]; rfl
    · rw [if_neg (by omega), decide_eq_false hxy]
      split <;> rfl
  · have hne : nm x ≠ nm y := fun e => h0 (hs.2.2 e)
    rw [if_pos h0, decide_eq_false hne, Bool.false_and, Bool.or_false]
    exact decide_eq_decide.2 hs.1
theorem ltN_iff {nm : Nat → List UInt8} {x y : Nat} : ltN nm x y = true ↔ nm x < nm y ∨ (nm x = nm y ∧ x < y) := by unfold ltN; simp
theorem ltN_trans {nm : Nat → List UInt8} {x y z : Nat} (h1 : ltN nm x y = true) (h2 : ltN nm y z = true) : ltN nm x z = true := by
  rw [ltN_iff] at h1 h2 ⊢
  rcases h1 with h1 | ⟨h1, h1'⟩
  · rcases h2 with h2 | ⟨h2, h2'⟩
    · exact .inl (List.lt_trans h1 h2)
    · rw [h2] at h1; exact .inl h1
  · rcases h2 with h2 | ⟨h2, h2'⟩
    · rw [← h1] at h2; exact .inl h2
    · exact .inr ⟨h1.trans h2, by omega⟩
theorem ltN_irrefl (nm : Nat → List UInt8) (x : Nat) : ltN nm x x = false := by
  cases h : ltN nm x x
  · rfl
  · rw [ltN_iff] at h
    rcases h with h | ⟨_, h⟩
    · exact absurd h (List.lt_irrefl _)
    · omega
theorem ltN_asymm {nm : Nat → List UInt8} {x y : Nat} (h : ltN nm x y = true) : ltN nm y x = false := by
  cases h' : ltN nm y x
  · rfl
  · have := ltN_trans h h'
    rw [ltN_irrefl] at this; cases this
theorem ltN_total {nm : Nat → List UInt8} {x y : Nat} (h1 : ltN nm x y = false) (h2 : ltN nm y x = false) : x = y := by
  have a1 : ¬ (nm x < nm y ∨ (nm x = nm y ∧ x < y)) := fun h => by rw [ltN_iff.2 h] at h1; cases h1
  have a2 : ¬ (nm y < nm x ∨ (nm y = nm x ∧ y < x)) := fun h => by rw [ltN_iff.2 h] at h2; cases h2
  have e : nm x = nm y := List.le_antisymm (List.not_lt.1 fun h => a2 (.inl h)) (List.not_lt.1 fun h => a1 (.inl h))
  have b1 : ¬ x < y := fun h => a1 (.inr ⟨e, h⟩)
  have b2 : ¬ y < x := fun h => a2 (.inr ⟨e.symm, h⟩)
  omega
theorem ltN_ntrans {nm : Nat → List UInt8} {x y z : Nat} (h1 : ltN nm x y = false) (h2 : ltN nm y z = false) : ltN nm x z = false := by
  cases h : ltN nm x z
  · rfl
  · cases h3 : ltN nm y x
    · have e := ltN_total h1 h3
      subst e
      rw [h] at h2; exact h2
    · rw [ltN_trans h3 h] at h2; exact h2

/-- put at its place: behind all whose names are not greater -/
def insAt (nm : Nat → List UInt8) (l : List Nat) (i : Nat) : List Nat := l.takeWhile (fun j => decide (nm j ≤ nm i)) ++ i :: l.dropWhile (fun j => decide (nm j ≤ nm i))
def insR (nm : Nat → List UInt8) (q : Nat → Bool) : Nat → List Nat
  | 0 => []
  | k + 1 => bif q k then insAt nm (insR nm q k) k else insR nm q k
theorem insAt_perm (nm : Nat → List UInt8) (l : List Nat) (i : Nat) : (insAt nm l i).Perm (l ++ [i]) := by
  unfold insAt
  have h := List.takeWhile_append_dropWhile (p := fun j => decide (nm j ≤ nm i)) (l := l)
  conv => rhs; rw [← h]
  rw [List.append_assoc]
  exact List.Perm.append_left _ (List.perm_append_comm (l₁ := [i]))
theorem insR_perm (nm : Nat → List UInt8) (q : Nat → Bool) : ∀ k, (insR nm q k).Perm ((List.range k).filter q) := by
  intro k
  induction k with
  | zero => exact List.Perm.refl _
  | succ k ih =>
    rw [insR, List.range_succ, List.filter_append]
    cases h : q k
    · simp [h]; exact ih
    · have : [k].filter q = [k] := by simp [h]
      rw [this]
      exact (insAt_perm nm _ k).trans (List.Perm.append_right _ ih)
theorem insR_mem {nm : Nat → List UInt8} {q : Nat → Bool} {k x : Nat} (h : x ∈ insR nm q k) : x < k ∧ q x = true := by
  have := (insR_perm nm q k).mem_iff.1 h
  rw [List.mem_filter, List.mem_range] at this
  exact this
theorem dropWhile_head {p : Nat → Bool} {l : List Nat} {y : Nat} {t : List Nat} (h : l.dropWhile p = y :: t) : p y = false := by
  induction l with
  | nil => cases h
  | cons a l ih =>
    rw [List.dropWhile_cons] at h
    split at h
    · exact ih h
    · rename_i hn
      simp only [List.cons.injEq] at h
      rw [← h.1]; simpa using hn
theorem mem_takeWhile_of {p : Nat → Bool} {l : List Nat} {y : Nat} (h : y ∈ l.takeWhile p) : p y = true := by
  induction l with
  | nil => cases h
  | cons a l ih =>
    rw [List.takeWhile_cons] at h
    split at h
    · rcases List.mem_cons.1 h with rfl | h
      · assumption
      · exact ih h
    · cases h
theorem insAt_sorted {nm : Nat → List UInt8} {l : List Nat} {i : Nat} (hl : l.Pairwise fun x y => ltN nm x y = true) (hi : ∀ x ∈ l, x < i) : (insAt nm l i).Pairwise fun x y => ltN nm x y = true := by
  unfold insAt
  have h := List.takeWhile_append_dropWhile (p := fun j => decide (nm j ≤ nm i)) (l := l)
  generalize hA : l.takeWhile (fun j => decide (nm j ≤ nm i)) = A at *
  generalize hB : l.dropWhile (fun j => decide (nm j ≤ nm i)) = B at *
  rw [← h, List.pairwise_append] at hl
  obtain ⟨h1, h2, h3⟩ := hl
  have hAi : ∀ a ∈ A, ltN nm a i = true := fun a ha => by
    have h4 := mem_takeWhile_of (p := fun j => decide (nm j ≤ nm i)) (l := l) (by rw [hA]; exact ha)
    have h5 : a < i := hi a (by rw [← h]; exact List.mem_append_left _ ha)
    have h6 : nm a ≤ nm i := by simpa using h4
    rw [ltN_iff]
    rcases List.le_iff_lt_or_eq.1 h6 with h7 | h7
    · exact .inl h7
    · exact .inr ⟨h7, h5⟩
  have hiB : ∀ b ∈ B, ltN nm i b = true := fun b hb => by
    cases B with
    | nil => cases hb
    | cons y t =>
      have h4 := dropWhile_head hB
      have h5 : nm i < nm y := by
        have : ¬ nm y ≤ nm i := by simpa using h4
        exact List.not_le.1 this
      have h6 : ltN nm i y = true := ltN_iff.2 (.inl h5)
      rcases List.mem_cons.1 hb with rfl | hb
      · exact h6
      · exact ltN_trans h6 ((List.pairwise_cons.1 h2).1 b hb)
  rw [List.pairwise_append, List.pairwise_cons]
  refine ⟨h1, ⟨hiB, h2⟩, fun a ha b hb => ?_⟩
  rcases List.mem_cons.1 hb with rfl | hb
  · exact hAi a ha
  · exact h3 a ha b hb
theorem insR_sorted (nm : Nat → List UInt8) (q : Nat → Bool) : ∀ k, (insR nm q k).Pairwise fun x y => ltN nm x y = true := by
  intro k
  induction k with
  | zero => exact List.Pairwise.nil
  | succ k ih =>
    rw [insR]
    cases h : q k
    · exact ih
    · exact insAt_sorted ih fun x hx => (insR_mem hx).1
/-- a list in this order that has the same members is the same -/
theorem ins_unique {nm : Nat → List UInt8} {l M : List Nat} (hp : M.Perm l) (hl : l.Pairwise fun x y => ltN nm x y = true) (hM : M.Pairwise fun x y => (!ltN nm y x) = true) : M = l := by
  refine List.Perm.eq_of_pairwise (le := fun x y => (!ltN nm y x) = true) ?_ hM (hl.imp fun h => by rw [ltN_asymm h]; rfl) hp
  intro a b _ _ h1 h2
  simp only [Bool.not_eq_true'] at h1 h2
  exact ltN_total h2 h1
end Go.Proofs.YthbnmehbhpakaaaGreatDoor
set_option autoImplicit false
set_option relaxedAutoImplicit false
set_option linter.unusedVariables false
set_option linter.unusedSimpArgs false
namespace Go.Proofs.YthbnmehbhpakaaaGreatDoor
open Go.Rows Go.RowKit Go.Shelf Go.Sort

/-- a world that has been drawn from and grown -/
def Cls (w w' : World) : Prop := ∃ (q : Nat) (os : Array Obj), w' = grow (w.drewN q) os
theorem Cls.refl (w : World) : Cls w w := ⟨0, #[], by rw [grow_empty]; rfl⟩
theorem Cls.drew {w w' : World} (h : Cls w w') : Cls w w'.drew := by
  obtain ⟨q, os, rfl⟩ := h
  exact ⟨q + 1, os, by rw [drew_grow]; rfl⟩
theorem Cls.alloc {w w' : World} (h : Cls w w') (o : Obj) : Cls w (w'.alloc o) := by
  obtain ⟨q, os, rfl⟩ := h
  exact ⟨q, os ++ #[o], by rw [alloc_eq_grow, grow_grow]⟩
theorem Cls.below {w w' : World} (h : Cls w w') : Below w.heap.size w w' := by
  obtain ⟨q, os, rfl⟩ := h
  exact below_of_regrown (d := w.drawn + q) (Below.refl _ _) (Nat.le_refl _) os

set_option maxHeartbeats 800000 in
theorem cmpOr_any (b o c : Nat) (x y : Int) (w : World) (hx : w.cell? ⟨b, o, none⟩ = some (.int .i64 x)) (hy : w.cell? ⟨b, o + 1, none⟩ = some (.int .i64 y)) :
    Calls Tryz.prog 79 #[.slice (some ⟨b, o, none⟩) 2 c] w fun e w' => e = .returned (.int .i64 (orI x y)) ∧ w' = w := by
  by_cases h0 : x = 0
  · subst h0
    have He : Hid (orI 0 y = y) := by unfold Hid orI; rw [if_neg (by simp)]
    generalize orI 0 y = R at *
    by_cases h1 : y = 0
    · subst h1
      go_enter Tryz.func79, Tryz.ntmps79
      go_wp2_with fail
      go_loopw [8] (fun i wr => ∃ k : Nat, k ≤ 2 ∧ i = .int .i64 k ∧ wr = w) (fun i _ => 2 - (intOf i).toNat)
      case atStart => exact ⟨0, by omega, rfl, rfl⟩
      case round =>
        obtain ⟨k, hk, rfl, rfl⟩ := hrel
        rcases (by omega : k = 0 ∨ k = 1 ∨ k = 2) with rfl | rfl | rfl
        · go_wp2_with fail
          go_roundw
          case rel => exact ⟨1, by omega, rfl, trivial⟩
          case measure => simp [intOf]
        · go_wp2_with fail
          go_roundw
          case rel => exact ⟨2, by omega, rfl, trivial⟩
          case measure => simp [intOf]
        · go_wp2_with fail
          go_ret
          exact ⟨ret_int He.out.symm, rfl⟩
    · have hb : (y != 0) = true := by simpa using h1
      clear h1
      go_enter Tryz.func79, Tryz.ntmps79
      go_wp2_with fail
      go_loopw [8] (fun i wr => ∃ k : Nat, k ≤ 1 ∧ i = .int .i64 k ∧ wr = w) (fun i _ => 2 - (intOf i).toNat)
      case atStart => exact ⟨0, by omega, rfl, rfl⟩
      case round =>
        obtain ⟨k, hk, rfl, rfl⟩ := hrel
        rcases (by omega : k = 0 ∨ k = 1) with rfl | rfl
        · go_wp2_with fail
          go_roundw
          case rel => exact ⟨1, by omega, rfl, trivial⟩
          case measure => simp [intOf]
        · go_wp2_with fail
          go_ret
          exact ⟨ret_int He.out.symm, rfl⟩
  · have hb : (x != 0) = true := by simpa using h0
    have He : Hid (orI x y = x) := by unfold Hid orI; rw [if_pos h0]
    generalize orI x y = R at *
    clear h0
    go_enter Tryz.func79, Tryz.ntmps79
    go_wp2_with fail
    go_loopw [8] (fun i wr => i = .int .i64 0 ∧ wr = w) (fun i _ => 2 - (intOf i).toNat)
    case atStart => exact ⟨rfl, rfl⟩
    case round =>
      obtain ⟨rfl, rfl⟩ := hrel
      go_wp2_with fail
      go_ret
      exact ⟨ret_int He.out.symm, rfl⟩

set_option maxHeartbeats 800000 in
theorem lastAt_any (i n c h pc hc b0 hB b o g u : Nat) (hA : Option Addr) (s : ByteArray) (w : World) (hi : i < n) (c0 : w.cell? ⟨b0, 0, none⟩ = some (.slice (some ⟨b, o, none⟩) n c)) (c1 : w.cell? ⟨b, o + i * 9, none⟩ = some (.slice (some ⟨g, u, none⟩) (h + 1) pc))
    (c2 : w.cell? ⟨hB, 0, none⟩ = some (.slice hA h hc)) (c3 : w.cell? ⟨g, u + h, none⟩ = some (.string s)) (hh : h ≤ 9223372036854775807) :
    Calls Tryz.prog 76 #[.int .i64 i, .pointer (some ⟨b0, 0, none⟩), .pointer (some ⟨hB, 0, none⟩)] w fun e w' => e = .returned (.string s) ∧ w' = w.drew := by
  have hiI : (i : Int) < (n : Int) := by omega
  have hi0 : (0 : Int) ≤ (i : Int) := by omega
  have hh0 : (0 : Int) ≤ (h : Int) := by omega
  have hhI : (h : Int) < (h : Int) + 1 := by omega
  have hhJ : (h : Int) < ((h + 1 : Nat) : Int) := by omega
  go_enter Tryz.func76, Tryz.ntmps76
  go_wp2_with fail
  go_region_held3 (fun w' => w'.cell? ⟨b0, 0, none⟩ = some (.slice (some ⟨b, o, none⟩) n c) ∧ w'.cell? ⟨b, o + i * 9, none⟩ = some (.slice (some ⟨g, u, none⟩) (h + 1) pc) ∧ w'.cell? ⟨hB, 0, none⟩ = some (.slice hA h hc) ∧ w'.cell? ⟨g, u + h, none⟩ = some (.string s))
    (first | go_keep | exact ⟨by go_keep, by go_keep, by go_keep, by go_keep⟩)
    (fail)
  all_goals
    go_wp2_with fail
    go_ret
    exact ⟨rfl, rfl⟩

set_option maxHeartbeats 1600000 in
theorem order_any (i j b0 hB b9 : Nat) (si sj : ByteArray) (w : World) (h0 : w.cell? ⟨b9, 0, none⟩ = some (.func (.func 76) #[] #[.pointer (some ⟨b0, 0, none⟩), .pointer (some ⟨hB, 0, none⟩)]))
    (hi : ∀ w', Cls w w' → Calls Tryz.prog 76 #[.int .i64 i, .pointer (some ⟨b0, 0, none⟩), .pointer (some ⟨hB, 0, none⟩)] w' fun e w'' => e = .returned (.string si) ∧ w'' = w'.drew)
    (hj : ∀ w', Cls w w' → Calls Tryz.prog 76 #[.int .i64 j, .pointer (some ⟨b0, 0, none⟩), .pointer (some ⟨hB, 0, none⟩)] w' fun e w'' => e = .returned (.string sj) ∧ w'' = w'.drew) :
    Calls Tryz.prog 78 #[.int .i64 i, .int .i64 j, .pointer (some ⟨b9, 0, none⟩)] w fun e w' => e = .returned (.int .i64 (orI (Lib.compareBytes si.data.toList sj.data.toList) (Lib.compareInt i j))) ∧ Cls w w' := by
  have Hi := Lib.hid hi; clear hi
  have Hj := Lib.hid hj; clear hj
  have Hlt : b9 < w.heap.size := cell_lt h0
  go_enter Tryz.func78, Tryz.ntmps78
  go_wp2_with fail
  go_region_held3 (fun w' => w'.cell? ⟨b9, 0, none⟩ = some (.func (.func 76) #[] #[.pointer (some ⟨b0, 0, none⟩), .pointer (some ⟨hB, 0, none⟩)]) ∧ Cls w w')
    (first
      | exact ⟨by go_keep, (Cls.refl w).drew⟩
      | (go_split_ands; exact ⟨by go_keep, Cls.drew (by assumption)⟩)
      | (go_split_ands; exact ⟨by go_keep, Cls.alloc (by assumption) _⟩)
      | (go_split_ands; exact ⟨by go_keep, by assumption⟩)
      | (go_split_ands; exact ⟨by assumption, by assumption⟩)
      | exact ⟨by go_keep, (Cls.alloc (Cls.refl w) _).drew.drew.drew⟩)
    (first
      | (go_at_call 76; go_split_ands; (first | (with_reducible refine (Hi.out _ (by assumption)).mono ?_) | (with_reducible refine (Hj.out _ (by assumption)).mono ?_)); rintro e w' ⟨rfl, rfl⟩)
      | (go_at_call 80; refine (Tryz.strings_Compare _ _ _).mono ?_; rintro e w' ⟨rfl, rfl⟩)
      | (go_at_call 81; refine (Tryz.cmp_Compare_int _ _ _).mono ?_; rintro e w' ⟨rfl, rfl⟩)
      | (go_at_call 79; refine (cmpOr_any _ 0 _ (Lib.compareBytes si.data.toList sj.data.toList) (Lib.compareInt i j) _ (by simp [go_sem]) (by simp [go_sem])).mono ?_; rintro e w' ⟨rfl, rfl⟩))
  all_goals
    go_wp2_with fail
    go_ret
    exact ⟨rfl, (Cls.alloc (Cls.refl w) _).drew.drew.drew⟩
end Go.Proofs.YthbnmehbhpakaaaGreatDoor
set_option autoImplicit false
set_option relaxedAutoImplicit false
set_option linter.unusedVariables false
set_option linter.unusedSimpArgs false
namespace Go.Proofs.YthbnmehbhpakaaaGreatDoor
open Go.Rows Go.RowKit Go.Shelf Go.Sort

theorem sortWorld_far {α : Type} [Inhabited α] (enc : α → Value) (w : World) (g o m : Nat) (dk : Array α) (os : Array Obj) {k : Nat} (hk : k < w.heap.size) (hne : k ≠ g) : (sortWorld enc w g o m dk os).heap[k]? = w.heap[k]? := by
  unfold sortWorld
  have hs : (putRow enc (Sort.ahead w m) g o dk).heap.size = w.heap.size := size_putRow enc (Sort.ahead w m) g o dk
  rw [heap_grow_old _ _ (by rw [hs]; exact hk)]
  unfold putRow mapBlock
  simp only [Array.getElem?_modify]
  rw [if_neg (fun e => hne e.symm)]
  rfl
theorem sortWorld_grown {α : Type} [Inhabited α] (enc : α → Value) (w : World) (g o m : Nat) (dk : Array α) (os : Array Obj) : w.grownBy (sortWorld enc w g o m dk os) (some g) := by
  refine ⟨rfl, rfl, rfl, ?_, fun k hk hne => sortWorld_far enc w g o m dk os hk (fun e => hne (by rw [e]))⟩
  unfold sortWorld
  rw [size_grow, size_putRow]
  show w.heap.size ≤ w.heap.size + os.size
  omega
/-- the last name of a directory's path -/
def nmL (xs : List Dir) (i : Nat) : List UInt8 := match xs[i]? with | some d => (lastN d.path).data.toList | none => []
theorem nmL_at {xs : List Dir} {i : Nat} (h : i < xs.length) : nmL xs i = (lastN xs[i].path).data.toList := by unfold nmL; rw [List.getElem?_eq_getElem h]
def castL (l : List Nat) : List Int := l.map fun (r : Nat) => (r : Int)
theorem castL_get {l : List Nat} {j x : Nat} (h : l[j]? = some x) : (castL l)[j]? = some (x : Int) := by unfold castL; rw [List.getElem?_map, h]; rfl

set_option maxHeartbeats 800000 in
theorem sortIns_any (xs : List Dir) (h n c b0 hB b9 b o hc : Nat) (hA : Option Addr) (w0 w : World) (base g cap : Nat) (F R : List Nat) (hx : SlV rDir w0 (fun b => b < w0.heap.size) xs (.slice (some ⟨b, o, none⟩) n c)) (hw : Below w0.heap.size w0 w) (hbase : w0.heap.size ≤ base)
    (c0 : w.cell? ⟨b0, 0, none⟩ = some (.slice (some ⟨b, o, none⟩) n c)) (c1 : w.cell? ⟨hB, 0, none⟩ = some (.slice hA h hc)) (c2 : w.cell? ⟨b9, 0, none⟩ = some (.func (.func 76) #[] #[.pointer (some ⟨b0, 0, none⟩), .pointer (some ⟨hB, 0, none⟩)]))
    (n0 : b0 ≠ g) (n1 : hB ≠ g) (n9 : b9 ≠ g) (hF : ∀ x ∈ F, ∃ hx : x < xs.length, xs[x].path.length = h + 1) (hF0 : 0 < F.length) (hrow : IRow w base g 0 cap (castL F)) (hR : R.Perm F) (hRs : R.Pairwise fun x y => ltN (nmL xs) x y = true) (hh : h ≤ 9223372036854775807) (hx63 : xs.length ≤ 9223372036854775807) (hF63 : F.length < 4611686018427387904) :
    Calls Tryz.prog 77 #[.slice (some ⟨g, 0, none⟩) F.length cap, .func (.func 78) #[] #[.pointer (some ⟨b9, 0, none⟩)]] w fun e w' =>
      e = .returned (.tuple #[]) ∧ SlV rInt w' (fun b => base ≤ b) (castL R) (.slice (some ⟨g, 0, none⟩) F.length cap) ∧ w.grownBy w' (some g) := by
  let α := {x : Nat // ∃ hx : x < xs.length, xs[x].path.length = h + 1}
  have hinh : Inhabited α := ⟨⟨F[0], hF _ (List.getElem_mem hF0)⟩⟩
  let enc : α → Value := fun x => .int .i64 (x.val : Int)
  let cf : α → α → Int := fun x y => cfN (nmL xs) x.val y.val
  have hlt : ∀ x y : α, ltOf cf x y = ltN (nmL xs) x.val y.val := fun x y => cfN_lt _ _ _
  have hO : SWO (ltOf cf) := ⟨fun x => by rw [hlt]; exact ltN_irrefl _ _, fun x y z h1 h2 => by rw [hlt] at *; exact ltN_trans h1 h2, fun x y z h1 h2 => by rw [hlt] at *; exact ltN_ntrans h1 h2⟩
  have hT : ∀ x y : α, ltOf cf x y = false → ltOf cf y x = false → x = y := fun x y h1 h2 => by rw [hlt] at h1 h2; exact Subtype.ext (ltN_total h1 h2)
  let L : List α := F.pmap Subtype.mk hF
  have hL : L.map Subtype.val = F := by show (F.pmap Subtype.mk hF).map Subtype.val = F; rw [List.map_pmap]; simp
  have hLl : L.length = F.length := by show (F.pmap Subtype.mk hF).length = _; rw [List.length_pmap]
  have hd : L.toArray.size = F.length := by rw [List.size_toArray, hLl]
  have hget : ∀ j (hj : j < F.length), (L.toArray[j]!).val = F[j] := fun j hj => by
    rw [getElem!_pos L.toArray j (by rw [hd]; exact hj)]
    show (L[j]'(by rw [hLl]; exact hj)).val = F[j]
    show ((F.pmap Subtype.mk hF)[j]'(by rw [List.length_pmap]; exact hj)).val = F[j]
    rw [List.getElem_pmap]
  have hHold : Holds enc w g 0 L.toArray := fun j hj => by
    rw [hd] at hj
    have h1 := hrow.at_ j (F[j] : Int) (castL_get (List.getElem?_eq_getElem hj))
    have h2 := hrow.there j (Nat.lt_of_lt_of_le (by simpa [castL] using hj) hrow.le)
    refine ⟨?_, h2.2⟩
    rw [h1]
    show _ = some (Value.int .i64 ((L.toArray[j]!).val : Int))
    rw [hget j hj]
  have hfar : ∀ (m : Nat) (os : Array Obj) (dk : Array α) (w' : World), Cls (sortWorld enc w g 0 m dk os) w' → ∀ (b1 o1 : Nat) (v : Value), b1 ≠ g → w.cell? ⟨b1, o1, none⟩ = some v → w'.cell? ⟨b1, o1, none⟩ = some v := fun m os dk w' hC b1 o1 v hne hc => by
    have hb1 : b1 < w.heap.size := cell_lt hc
    have h1 : (sortWorld enc w g 0 m dk os).cell? ⟨b1, o1, none⟩ = some v := (cell_same (sortWorld_far enc w g 0 m dk os hb1 hne) _ _).trans hc
    exact below_cell hC.below h1 (cell_lt h1)
  have hgb : w0.heap.size ≤ g := Nat.le_trans hbase hrow.lo
  have hn : n = xs.length := hx.n_eq
  have hlast : ∀ (x : α) (W : World), (∀ (b1 o1 : Nat) (v : Value), b1 ≠ g → w.cell? ⟨b1, o1, none⟩ = some v → W.cell? ⟨b1, o1, none⟩ = some v) →
      Calls Tryz.prog 76 #[.int .i64 (x.val : Int), .pointer (some ⟨b0, 0, none⟩), .pointer (some ⟨hB, 0, none⟩)] W fun e w'' => e = .returned (.string (lastN (xs[x.val]'x.property.1).path)) ∧ w'' = W.drew := fun x W hW => by
    obtain ⟨i, hi, hil⟩ := x
    obtain ⟨b', o', cs, hAe, _, hbb, hh', hcell⟩ := hx.elem (List.getElem?_eq_getElem hi)
    obtain ⟨s0, s1, s2, s3, rfl, hp, _, _, _, _, _, _, _, _⟩ := hh'
    obtain ⟨pA, pc, rfl, _, _⟩ := hp.val
    simp only [Option.some.injEq, Addr.mk.injEq] at hAe
    obtain ⟨rfl, rfl, _⟩ := hAe
    obtain ⟨g', u, rfl, hg', hlc, _⟩ := last_cell2 hp hil
    have d0 := below_cell hw (hcell 0 _ rfl) hbb
    have d1 := below_cell hw hlc hg'
    simp only [rDir, Nat.add_zero] at d0
    rw [hil] at d0
    exact lastAt_any i n c h pc hc b0 hB b o g' u hA _ W (by rw [hn]; exact hi) (hW _ _ _ n0 c0) (hW _ _ _ (by omega) d0) (hW _ _ _ n1 c1) (hW _ _ _ (by omega) d1) hh
  have hcmp : CmpLays1 Tryz.prog 78 #[.pointer (some ⟨b9, 0, none⟩)] enc cf g 0 L.toArray.size w := fun m os dk hs x y => by
    have hz := fun w' (hC : Cls (sortWorld enc w g 0 m dk os) w') => hfar m os dk w' hC
    have := order_any x.val y.val b0 hB b9 (lastN (xs[x.val]'x.property.1).path) (lastN (xs[y.val]'y.property.1).path) (sortWorld enc w g 0 m dk os) (hz _ (Cls.refl _) _ _ _ n9 c2) (fun w' hC => hlast x w' (hz w' hC)) (fun w' hC => hlast y w' (hz w' hC))
    refine this.mono fun e w' ⟨he, hC⟩ => ⟨?_, hC⟩
    rw [he]
    show _ = Ending.returned (Value.int .i64 (cfN (nmL xs) x.val y.val))
    unfold cfN
    rw [nmL_at x.property.1, nmL_at y.property.1]
  have hS := Tryz.slices_SortFunc_total enc (fun x => rfl) cf hO 78 #[.pointer (some ⟨b9, 0, none⟩)] g 0 cap L.toArray w (enters_of Tryz.func78 (by kernel_rfl) rfl) hcmp hHold hrow.lt (by rw [hd]; exact hF63) hT
  rw [hd] at hS
  refine hS.mono ?_
  rintro e w' ⟨rfl, m, os, rfl⟩
  have hM : ((L.mergeSort fun x y => !(ltOf cf) y x).map Subtype.val) = R := by
    refine ins_unique (nm := nmL xs) ?_ hRs ?_
    · exact (((List.mergeSort_perm L _).map Subtype.val).trans (by rw [hL])).trans hR.symm
    · rw [List.pairwise_map]
      refine (List.pairwise_mergeSort (le := fun x y => !(ltOf cf) y x) ?_ ?_ L).imp fun {x y} hxy => ?_
      · intro x y z h1 h2
        simp only [Bool.not_eq_true'] at h1 h2 ⊢
        exact hO.ntrans z y x h2 h1
      · intro x y
        cases hyx : ltOf cf y x with
        | false => simp
        | true => rw [hlt] at *; simp [ltN_asymm hyx]
      · rw [hlt] at hxy; exact hxy
  have hMl : (L.mergeSort fun x y => !(ltOf cf) y x).length = F.length := by rw [List.length_mergeSort, hLl]
  have hRl : (castL R).length = F.length := by unfold castL; rw [List.length_map]; exact hR.length_eq
  refine ⟨rfl, ?_, sortWorld_grown _ _ _ _ _ _ _⟩
  have hH2 := holds_sortWorld enc w g 0 m L.toArray (L.mergeSort fun x y => !(ltOf cf) y x).toArray os hrow.lt hHold (by rw [List.size_toArray, hMl, hd])
  have hg2 : g < (sortWorld enc w g 0 m (L.mergeSort fun x y => !(ltOf cf) y x).toArray os).heap.size := Nat.lt_of_lt_of_le hrow.lt (sortWorld_grown enc w g 0 m _ os).size
  have hcl : (castL F).length = F.length := by unfold castL; rw [List.length_map]
  refine ⟨some ⟨g, 0, none⟩, cap, by rw [hRl], by rw [hRl, ← hcl]; exact hrow.le, hrow.max, (fun e => by cases e), fun _ => ⟨g, 0, rfl, hrow.lo, hg2, fun i x hx => ?_⟩⟩
  have hi : i < F.length := by rw [← hRl]; exact (List.getElem?_eq_some_iff.1 hx).1
  have h3 := (hH2 i (by rw [List.size_toArray, hMl]; exact hi)).1
  rw [getElem!_pos _ i (by rw [List.size_toArray, hMl]; exact hi)] at h3
  have hxv : x = (((L.mergeSort fun x y => !(ltOf cf) y x)[i]'(by rw [hMl]; exact hi)).val : Int) := by
    rw [← hM] at hx
    unfold castL at hx
    rw [List.getElem?_map, List.getElem?_map, List.getElem?_eq_getElem (by rw [hMl]; exact hi)] at hx
    simpa using hx.symm
  refine ⟨[.int .i64 x], ⟨rfl, ?_⟩, fun j u hu => ?_⟩
  · have hv := ((L.mergeSort fun x y => !(ltOf cf) y x)[i]'(by rw [hMl]; exact hi)).property.1
    unfold I64; rw [hxv]; omega
  · cases j with
    | zero =>
      simp at hu; subst hu
      rw [hxv]
      simpa [rInt, enc] using h3
    | succ j => simp at hu
end Go.Proofs.YthbnmehbhpakaaaGreatDoor
