/-
  Versions' texts in plain words: a text is read as the version whose text it is.
-/
import Derived.Test.YtghihopmiagcpaaGreatDoorVers
import Derived.Test.YtghihopmiagcpaaGreatDoorShelfS
import Derived.Lib.Split
import Derived.Lib.SplitLaws
import Derived.Lib.PathFns
import Derived.Lib.IndexMore
set_option autoImplicit false
set_option relaxedAutoImplicit false
set_option linter.unusedVariables false
set_option linter.unusedSimpArgs false
namespace Go.Proofs.YtghihopmiagcpaaGreatDoor
open Go.Rows Go.RowKit Go.Shelf Go.Sort

def Ver.txt (v : Ver) : ByteArray := verText v.major v.minor v.patch
open Classical in
/-- the version whose text it is -/
noncomputable def vparse (s : ByteArray) : Option Ver := if h : ∃ v : Ver, v.ok = true ∧ s = v.txt then some h.choose else none
/-- the texts of the numbers of a version: read as they are written; no dot in them -/
theorem itoa_part : ∀ k : Fin 1000, Lib.atoiAll (itoaB (k.val : Int)).data.toList = .ok (k.val : Int) ∧ (itoaB (k.val : Int)).data.toList.all (fun c => decide (48 ≤ c.toNat) && decide (c.toNat ≤ 57)) = true := by decide +kernel
theorem itoa_read {n : Int} (h0 : 0 ≤ n) (h1 : n ≤ 999) : Lib.atoiAll (itoaB n).data.toList = .ok n ∧ (itoaB n).data.toList.all (fun c => decide (48 ≤ c.toNat) && decide (c.toNat ≤ 57)) = true := by
  have := itoa_part ⟨n.toNat, by omega⟩
  rwa [show ((n.toNat : Nat) : Int) = n by omega] at this
theorem itoa_inj {n m : Int} (h0 : 0 ≤ n) (h1 : n ≤ 999) (h : itoaB n = itoaB m) (g0 : 0 ≤ m) (g1 : m ≤ 999) : n = m := by
  have e1 := (itoa_read h0 h1).1
  have e2 := (itoa_read g0 g1).1
  rw [h, e2] at e1
  cases e1; rfl
theorem index_dot {x y : List UInt8} (hx : x.all (fun c => decide (48 ≤ c.toNat) && decide (c.toNat ≤ 57)) = true) : Lib.index (x ++ 46 :: y) [46] = (x.length : Int) := by
  refine Lib.index_first (by simp) (by simp [Lib.occAt]) fun j hj => ?_
  unfold Lib.occAt
  rw [List.drop_append_of_le_length (by omega), List.drop_eq_getElem_cons hj]
  have := List.all_eq_true.1 hx _ (List.getElem_mem hj)
  simp only [List.cons_append, List.isPrefixOf, Bool.and_true]
  rw [beq_eq_false_iff_ne]
  intro e
  rw [← e] at this
  simp at this
theorem index_nodot {x : List UInt8} (hx : x.all (fun c => decide (48 ≤ c.toNat) && decide (c.toNat ≤ 57)) = true) : Lib.index x [46] = -1 := by
  refine Lib.index_none fun j hj => ?_
  unfold Lib.occAt
  by_cases hjl : j < x.length
  · rw [List.drop_eq_getElem_cons hjl]
    have := List.all_eq_true.1 hx _ (List.getElem_mem hjl)
    simp only [List.isPrefixOf, Bool.and_true]
    rw [beq_eq_false_iff_ne]
    intro e
    rw [← e] at this
    simp at this
  · rw [List.drop_eq_nil_of_le (by omega)]; rfl
theorem bytes_ext {a b : ByteArray} (h : a.data.toList = b.data.toList) : a = b := by
  cases a; cases b; simp only [ByteArray.mk.injEq]; exact Array.toList_inj.1 h
theorem parts_text {v : Ver} (h : v.ok = true) : Lib.countB v.txt dotB = 2 ∧ Lib.splitB dotB 0 2 v.txt = [itoaB v.major, itoaB v.minor, itoaB v.patch] := by
  obtain ⟨a, b, c⟩ := v
  have hv : verB a b c = true := h
  obtain ⟨⟨a0, a1⟩, ⟨b0, b1⟩, c0, c1⟩ := verB_iff.1 hv
  have ht : Ver.txt ⟨a, b, c⟩ = itoaB a ++ dotB ++ itoaB b ++ dotB ++ itoaB c := by show verText a b c = _; unfold verText; rw [if_pos hv]
  have ha := (itoa_read a0 a1).2
  have hb := (itoa_read b0 b1).2
  have hc := (itoa_read c0 c1).2
  rw [ht]
  simp only
  generalize itoaB a = A at *
  generalize itoaB b = B at *
  generalize itoaB c = C at *
  have hd : dotB.data.toList = [46] := rfl
  have e1 : (A ++ dotB ++ B ++ dotB ++ C).data.toList = A.data.toList ++ 46 :: (B ++ dotB ++ C).data.toList := by simp [ByteArray.data_append, hd]
  have e2 : (B ++ dotB ++ C).data.toList = B.data.toList ++ 46 :: C.data.toList := by simp [ByteArray.data_append, hd]
  have s1 : dotB.size = 1 := rfl
  have i1 : Lib.indexB (A ++ dotB ++ B ++ dotB ++ C) dotB = (A.size : Int) := by
    show Lib.index _ dotB.data.toList = _
    rw [e1, hd, index_dot ha]; rfl
  have i2 : Lib.indexB (B ++ dotB ++ C) dotB = (B.size : Int) := by
    show Lib.index _ dotB.data.toList = _
    rw [e2, hd, index_dot hb]; rfl
  have i3 : Lib.indexB C dotB = -1 := by
    show Lib.index _ dotB.data.toList = _
    rw [hd, index_nodot hc]
  have z1 : A.data.toList.length = A.size := rfl
  have z2 : B.data.toList.length = B.size := rfl
  have x1 : (A ++ dotB ++ B ++ dotB ++ C).extract (A.size + dotB.size) (A ++ dotB ++ B ++ dotB ++ C).size = B ++ dotB ++ C := by
    rw [Lib.extract_from, e1, s1]
    apply bytes_ext
    rw [List.drop_append, List.drop_eq_nil_of_le (by omega), z1, show A.size + 1 - A.size = 1 by omega]; rfl
  have x2 : (B ++ dotB ++ C).extract (B.size + dotB.size) (B ++ dotB ++ C).size = C := by
    rw [Lib.extract_from, e2, s1]
    apply bytes_ext
    rw [List.drop_append, List.drop_eq_nil_of_le (by omega), z2, show B.size + 1 - B.size = 1 by omega]; rfl
  have y1 : (A ++ dotB ++ B ++ dotB ++ C).extract 0 (A.size + 0) = A := by
    rw [Lib.extract_upto, e1]
    apply bytes_ext
    rw [List.take_append_of_le_length (by omega), List.take_of_length_le (by omega)]
  have y2 : (B ++ dotB ++ C).extract 0 (B.size + 0) = B := by
    rw [Lib.extract_upto, e2]
    apply bytes_ext
    rw [List.take_append_of_le_length (by omega), List.take_of_length_le (by omega)]
  constructor
  · rw [Lib.countB_hit _ _ _ (by decide) i1, x1, Lib.countB_hit _ _ _ (by decide) i2, x2, Lib.countB_miss _ _ i3]
  · rw [Lib.splitB_hit _ _ _ _ _ i1, x1, y1, Lib.splitB_hit _ _ _ _ _ i2, x2, y2, Lib.splitB_zero]
theorem split_head {k : Nat} {s p q : ByteArray} {r : List ByteArray} (h : Lib.splitB dotB 0 k s = p :: q :: r) : ∃ k' s', s = p ++ dotB ++ s' ∧ Lib.splitB dotB 0 k' s' = q :: r := by
  cases k with
  | zero => rw [Lib.splitB_zero] at h; simp at h
  | succ k =>
    rcases Lib.indexB_cases s dotB with hi | ⟨i, hi, hir⟩
    · rw [Lib.splitB_miss _ _ _ _ hi] at h; simp at h
    · rw [Lib.splitB_hit _ _ _ _ _ hi] at h
      simp only [List.cons.injEq] at h
      obtain ⟨h1, h2⟩ := h
      refine ⟨k, _, ?_, h2⟩
      have hI : Lib.index s.data.toList dotB.data.toList = (i : Int) := hi
      rcases Lib.index_spec s.data.toList dotB.data.toList with ⟨g, _⟩ | ⟨j, g, _, ho, _⟩
      · omega
      · obtain rfl : j = i := by omega
        have hc := Lib.occAt_head (c := 46) (t := []) rfl ho
        rw [← h1, Lib.extract_upto, Lib.extract_from]
        apply bytes_ext
        have hjl := (List.getElem?_eq_some_iff.1 hc).1
        have hd : dotB.data.toList = [46] := rfl
        have s1 : dotB.size = 1 := rfl
        simp only [ByteArray.data_append, Array.toList_append, hd, s1, Nat.add_zero, List.append_assoc, List.singleton_append]
        rw [← (List.getElem?_eq_some_iff.1 hc).2]
        conv => lhs; rw [← List.take_append_drop j s.data.toList, List.drop_eq_getElem_cons hjl]
theorem split_three {k : Nat} {s p q r : ByteArray} (h : Lib.splitB dotB 0 k s = [p, q, r]) : s = p ++ dotB ++ q ++ dotB ++ r := by
  obtain ⟨k1, s1, e1, h1⟩ := split_head h
  obtain ⟨k2, s2, e2, h2⟩ := split_head h1
  have e3 : s2 = r := by
    cases k2 with
    | zero => rw [Lib.splitB_zero] at h2; simpa using h2
    | succ k2 =>
      rcases Lib.indexB_cases s2 dotB with hi | ⟨i, hi, hir⟩
      · rw [Lib.splitB_miss _ _ _ _ hi] at h2; simpa using h2
      · rw [Lib.splitB_hit _ _ _ _ _ hi] at h2
        have := congrArg List.length h2
        have hp : 0 < (Lib.splitB dotB 0 k2 (s2.extract (i + dotB.size) s2.size)).length := by cases k2 <;> unfold Lib.splitB <;> (try split) <;> simp
        simp only [List.length_cons, List.length_nil] at this
        omega
  rw [e1, e2, e3]
  apply bytes_ext
  simp [ByteArray.data_append]
/-- a text that is a version's -/
theorem vparse_some {s : ByteArray} {v : Ver} (h : v.ok = true) (hs : s = v.txt) : vparse s = some v := by
  have hex : ∃ v : Ver, v.ok = true ∧ s = v.txt := ⟨v, h, hs⟩
  unfold vparse
  rw [dif_pos hex]
  obtain ⟨g1, g2⟩ := hex.choose_spec
  have hp1 := (parts_text h).2
  have hp2 := (parts_text g1).2
  rw [← hs] at hp1
  rw [← g2, hp1] at hp2
  simp only [List.cons.injEq, and_true] at hp2
  generalize hex.choose = u at *
  obtain ⟨a, b, c⟩ := v
  obtain ⟨a', b', c'⟩ := u
  obtain ⟨⟨a0, a1⟩, ⟨b0, b1⟩, c0, c1⟩ := verB_iff.1 (show verB a b c = true from h)
  obtain ⟨⟨p0, p1⟩, ⟨q0, q1⟩, r0, r1⟩ := verB_iff.1 (show verB a' b' c' = true from g1)
  simp only at hp2
  rw [itoa_inj a0 a1 hp2.1 p0 p1, itoa_inj b0 b1 hp2.2.1 q0 q1, itoa_inj c0 c1 hp2.2.2 r0 r1]
theorem vparse_is {s : ByteArray} {v : Ver} (h : vparse s = some v) : v.ok = true ∧ s = v.txt := by
  unfold vparse at h
  split at h
  · rename_i hex
    cases h
    exact hex.choose_spec
  · cases h
theorem vparse_no {s : ByteArray} (h : ∀ v : Ver, v.ok = true → s ≠ v.txt) : vparse s = none := by
  unfold vparse
  rw [dif_neg]
  rintro ⟨v, h1, h2⟩
  exact h v h1 h2
end Go.Proofs.YtghihopmiagcpaaGreatDoor
