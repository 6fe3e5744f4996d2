/-
  A path without its last part: the program's parent and the document's Parent, walked.
  A path's text cut at its steps: the path again.
  tree.Parse and the document's Parse: the path that a text is.
  A disk's paths: cut at slashes (plain); the program's below, walked.
  A disk's paths: the document's Path, walked.
  The document's disk: find and Kind, walked.
-/
import Derived.Test.YthbnmehbhpakaaaGreatDoorDi26
import Derived.Test.YthbnmehbhpakaaaGreatDoorDi04
import Derived.Lib.LastIndexByte
import Derived.Test.YthbnmehbhpakaaaGreatDoorDi16
import Derived.Lib.SplitLaws
import Derived.Test.YthbnmehbhpakaaaGreatDoorDi10
import Derived.Test.YthbnmehbhpakaaaGreatDoorDi07
import Derived.Test.YthbnmehbhpakaaaGreatDoorDi03
set_option autoImplicit false
set_option relaxedAutoImplicit false
set_option linter.unusedVariables false
set_option linter.unusedSimpArgs false
namespace Go.Proofs.YthbnmehbhpakaaaGreatDoor
open Go.Rows Go.RowKit Go.Shelf

/-- a path without its last part -/
def upS (s : ByteArray) : ByteArray := if Lib.lastIndexByte s 47 ≤ 0 then ⟨#[47]⟩ else s.extract 0 (Lib.lastIndexByte s 47).toNat
theorem data_at {s : ByteArray} {j : Nat} (h : j < s.size) : s.data[j]! = s[j] := by
  rw [getElem!_pos s.data j h]; rfl
theorem up_spec (s : ByteArray) : (Lib.lastIndexByte s 47 ≤ 0 ∧ upS s = ⟨#[47]⟩ ∧ ∀ j : Nat, 0 < j → ∀ h : j < s.size, (s[j].toNat : Int) ≠ 47) ∨
    ∃ i : Nat, 0 < i ∧ Lib.lastIndexByte s 47 = i ∧ upS s = s.extract 0 i ∧ ∃ h : i < s.size, (s[i].toNat : Int) = 47 ∧ ∀ j : Nat, i < j → ∀ h : j < s.size, (s[j].toNat : Int) ≠ 47 := by
  rcases Lib.lastIndexByte_spec s 47 with ⟨h1, h2⟩ | ⟨i, h1, h2, h3, h4⟩
  · refine .inl ⟨by omega, by unfold upS; rw [if_pos (by omega)], fun j _ h => ?_⟩
    have := h2 j h
    rwa [data_at h] at this
  · by_cases h0 : i = 0
    · subst h0
      refine .inl ⟨by omega, by unfold upS; rw [if_pos (by omega)], fun j hj h => ?_⟩
      have := h4 j hj h
      rwa [data_at h] at this
    · refine .inr ⟨i, by omega, h2, by unfold upS; rw [if_neg (by omega), h2]; rfl, h1, by rw [← data_at h1]; exact h3, fun j hj h => ?_⟩
      have := h4 j hj h
      rwa [data_at h] at this

theorem ret_strE {a b : ByteArray} (h : a = b) : Ending.returned (.string a) = .returned (.string b) := by rw [h]

theorem diskParent_any (s : ByteArray) (hs : s.size ≤ 1073741824) (w : World) :
    Calls Tryz.prog 60 #[.string s] w fun e w' => e = .returned (.string (upS s)) ∧ w' = w := by
  have HL : Hid (∀ W, Calls Tryz.prog 121 #[.string s, .int .u8 47] W fun e w' => e = .returned (.int .i64 (Lib.lastIndexByte s 47)) ∧ w' = W) := fun W => Tryz.strings_LastIndexByte s 47 (by omega) W
  rcases up_spec s with ⟨h1, h2, _⟩ | ⟨i, h0, h1, h2, h3, _⟩
  · have H2 := Lib.hid h2
    clear h2
    generalize Lib.lastIndexByte s 47 = z at *
    go_enter Tryz.func60, Tryz.ntmps60
    go_wp2_with fail
    refine (HL.out _).mono ?_
    rintro e w1 ⟨rfl, rfl⟩
    go_wp2_with fail
    go_ret
    exact ⟨ret_strE H2.out.symm, rfl⟩
  · have H2 := Lib.hid h2
    rw [h1] at HL
    clear h2 h1
    have hiI : ¬ (i : Int) ≤ 0 := by omega
    have hi0 : (0 : Int) ≤ (i : Int) := by omega
    have hi1 : (i : Int) ≤ (s.size : Int) := by omega
    go_enter Tryz.func60, Tryz.ntmps60
    go_wp2_with fail
    refine (HL.out _).mono ?_
    rintro e w1 ⟨rfl, rfl⟩
    go_wp2_with fail
    go_ret
    exact ⟨ret_strE H2.out.symm, rfl⟩

end Go.Proofs.YthbnmehbhpakaaaGreatDoor
set_option autoImplicit false
set_option relaxedAutoImplicit false
set_option linter.unusedVariables false
set_option linter.unusedSimpArgs false
namespace Go.Proofs.YthbnmehbhpakaaaGreatDoor

theorem step_cons : stepB.data.toList = 47 :: [109, 111, 100, 117, 108, 101, 115, 47] := by decide +kernel
theorem index_none {l : List UInt8} (h : ∀ b ∈ l, (b != 47) = true) : Lib.index l stepB.data.toList = -1 := by
  rw [step_cons]
  induction l with
  | nil => rfl
  | cons b l ih =>
    have hb : (47 == b) = false := by have := h b (by simp); simp at this ⊢; exact fun e => this e.symm
    unfold Lib.index
    rw [List.isPrefixOf, hb, Bool.false_and, ih fun c hc => h c (by simp [hc])]
    rfl
theorem index_at {l r : List UInt8} (h : ∀ b ∈ l, (b != 47) = true) : Lib.index (l ++ (stepB.data.toList ++ r)) stepB.data.toList = (l.length : Int) := by
  induction l with
  | nil =>
    have hp : stepB.data.toList.isPrefixOf (stepB.data.toList ++ r) = true := List.isPrefixOf_iff_prefix.2 (List.prefix_append _ _)
    rw [List.nil_append]
    generalize hs : stepB.data.toList = sl at *
    cases sl with
    | nil => rw [step_cons] at hs; cases hs
    | cons c sl =>
      rw [List.cons_append] at hp ⊢
      unfold Lib.index
      rw [hp]
      rfl
  | cons b l ih =>
    have hb : (47 == b) = false := by have := h b (by simp); simp at this ⊢; exact fun e => this e.symm
    have ih' := ih fun c hc => h c (by simp [hc])
    have hp : stepB.data.toList.isPrefixOf (b :: (l ++ (stepB.data.toList ++ r))) = false := by
      conv => lhs; arg 1; rw [step_cons]
      rw [List.isPrefixOf, hb, Bool.false_and]
    rw [List.cons_append]
    unfold Lib.index
    rw [hp, ih']
    have hne : ((l.length : Int) == -1) = false := by simp
    rw [hne]
    simp
theorem split_names : ∀ (t : List ByteArray) (a s : ByteArray), nameB a = true → t.all nameB = true → s.data.toList = a.data.toList ++ joined t → Lib.splitB stepB 0 (Lib.countB s stepB) s = a :: t := by
  intro t
  induction t with
  | nil =>
    intro a s ha _ hs
    rw [joined, List.append_nil] at hs
    have e : s = a := ByteArray.ext (Array.ext' hs)
    subst e
    have hi : Lib.indexB s stepB = -1 := index_none (nameL_slash ha)
    rw [Lib.countB_miss s stepB hi, Lib.splitB_zero]
  | cons b t ih =>
    intro a s ha hb hs
    rw [List.all_cons, Bool.and_eq_true] at hb
    rw [joined, List.append_assoc] at hs
    have hi : Lib.indexB s stepB = (a.data.toList.length : Int) := by
      show Lib.index s.data.toList stepB.data.toList = _
      rw [hs]
      exact index_at (nameL_slash ha)
    have hsz : stepB.size = 9 := by decide +kernel
    rw [Lib.countB_hit s stepB a.data.toList.length (by rw [hsz]; omega) hi, Nat.add_comm 1, Lib.splitB_hit stepB 0 _ s _ hi]
    have e1 : s.extract 0 (a.data.toList.length + 0) = a := by
      apply ByteArray.ext
      apply Array.ext'
      rw [Lib.extract_from_zero, hs, Nat.add_zero, List.take_left]
    have e2 : (s.extract (a.data.toList.length + stepB.size) s.size).data.toList = b.data.toList ++ joined t := by
      rw [Lib.extract_to_end, hs, hsz, ← List.append_assoc, show a.data.toList.length + 9 = (a.data.toList ++ stepB.data.toList).length by rw [List.length_append, step_cons]; rfl, List.drop_left]
    rw [e1, ih b _ hb.1 hb.2 e2]
/-- what a text is read as -/
noncomputable def parseR (s : ByteArray) : List ByteArray × Bool := if s = ⟨#[47]⟩ then ([], true) else match pathOf s with | none => ([], false) | some p => (p, true)
/-- the rest of a text, behind its first step -/
theorem pathOf_prefix {s : ByteArray} {p : List ByteArray} (h : pathOf s = some p) : stepB.data.toList.isPrefixOf s.data.toList = true := by
  obtain ⟨h0, _, h2⟩ := pathOf_spec h
  cases p with
  | nil => exact absurd rfl h0
  | cons a t =>
    rw [← h2, joined, List.append_assoc]
    exact List.isPrefixOf_iff_prefix.2 (List.prefix_append _ _)
theorem pathOf_noprefix {s : ByteArray} (h : stepB.data.toList.isPrefixOf s.data.toList = false) : pathOf s = none := by
  rcases hp : pathOf s with _ | p
  · rfl
  · rw [pathOf_prefix hp] at h; cases h
/-- the cut text's own text is the text, or it is none -/
theorem pathOf_split {s r : ByteArray} (h : s.data.toList = stepB.data.toList ++ r.data.toList) :
    (textB (Lib.splitB stepB 0 (Lib.countB r stepB) r) = s → pathOf s = some (Lib.splitB stepB 0 (Lib.countB r stepB) r)) ∧ (textB (Lib.splitB stepB 0 (Lib.countB r stepB) r) ≠ s → pathOf s = none) := by
  have hne : Lib.splitB stepB 0 (Lib.countB r stepB) r ≠ [] := by
    have := Lib.splitB_all stepB (by decide +kernel) 0 _ r rfl
    intro e
    rw [e] at this
    simp at this
  have hs0 : s ≠ ⟨#[]⟩ := by
    intro e
    rw [e, step_cons] at h
    cases h
  constructor
  · intro e
    unfold textB at e
    rw [if_neg hne] at e
    split at e
    · rename_i hall
      exact pathOf_some hne hall (by rw [← e])
    · exact absurd e.symm hs0
  · intro e
    rcases hp : pathOf s with _ | p
    · rfl
    · exfalso
      have ht := textB_pathOf hp
      obtain ⟨h0, h1, h2⟩ := pathOf_spec hp
      cases p with
      | nil => exact h0 rfl
      | cons a t =>
        rw [List.all_cons, Bool.and_eq_true] at h1
        rw [joined, List.append_assoc, h] at h2
        have h3 := List.append_cancel_left h2
        rw [split_names t a r h1.1 h1.2 h3.symm] at e
        exact e ht
end Go.Proofs.YthbnmehbhpakaaaGreatDoor
set_option autoImplicit false
set_option relaxedAutoImplicit false
set_option linter.unusedVariables false
set_option linter.unusedSimpArgs false
namespace Go.Proofs.YthbnmehbhpakaaaGreatDoor
open Go.Rows Go.RowKit Go.Shelf Go.Sort

/-- internal/bytealg.MaxLen holds an int -/
def MaxL (w : World) : Prop := ∃ m, w.cell? ⟨0, 0, none⟩ = some (.int .i64 m)
theorem MaxL.below {w w' : World} (h : MaxL w) (hb : Below w.heap.size w w') : MaxL w' := by
  obtain ⟨m, hm⟩ := h
  exact ⟨m, below_cell hb hm (cell_lt hm)⟩
theorem splitB_size (sep : ByteArray) : ∀ (k : Nat) (s : ByteArray), ∀ x ∈ Lib.splitB sep 0 k s, x.size ≤ s.size := by
  intro k
  induction k with
  | zero => intro s x hx; simp [Lib.splitB] at hx; subst hx; exact Nat.le_refl _
  | succ k ih =>
    intro s x hx
    unfold Lib.splitB at hx
    split at hx
    · simp at hx; subst hx; exact Nat.le_refl _
    · rcases List.mem_cons.1 hx with rfl | hx
      · rw [ByteArray.size_extract]; omega
      · have := ih _ x hx
        rw [ByteArray.size_extract] at this
        omega
theorem elems_strs {w : World} {S : Nat → Prop} : ∀ {l : List ByteArray}, (∀ x ∈ l, x.size ≤ maxLen) → Elems rStr w S l (l.map Value.string) := by
  intro l
  induction l with
  | nil => intro _; rfl
  | cons x l ih => intro h; exact ⟨[.string x], _, rfl, ⟨rfl, h x (by simp)⟩, ih fun y hy => h y (by simp [hy])⟩
theorem slash_true {s : ByteArray} (h : s = ⟨#[47]⟩) : (s.toList == [47]) = true := by
  rw [h, Go.ByteArray.toList_eq]; rfl
theorem slash_false {s : ByteArray} (h : s ≠ ⟨#[47]⟩) : (s.toList == [47]) = false := by
  have : s.toList ≠ [47] := fun e => h (ByteArray.ext (Array.ext' (by rw [Go.ByteArray.toList_eq] at e; exact e)))
  simpa using this
theorem ret_pairB {v : Value} {R : List ByteArray × Bool} {r : List ByteArray} {z : Bool} (h : R = (r, z)) : Ending.returned (.tuple #[v, .bool z]) = .returned (.tuple #[v, .bool R.2]) := by rw [h]

set_option maxHeartbeats 1600000 in
set_option maxRecDepth 100000 in
theorem parse_any (s : ByteArray) (w : World) (hs : s.size ≤ 67108864) (hm : MaxL w) :
    Calls Tryz.prog 66 #[.string s] w fun e w' => (∃ v, e = .returned (.tuple #[v, .bool (parseR s).2]) ∧ SlV rStr w' (fun _ => True) (parseR s).1 v) ∧ Below w.heap.size w w' := by
  by_cases h1 : s = ⟨#[47]⟩
  · have hb : (s.toList == [47]) = true := slash_true h1
    have He : Hid (parseR s = ([], true)) := by unfold Hid parseR; rw [if_pos h1]
    clear h1 hm hs
    generalize parseR s = R at *
    go_enter Tryz.func66, Tryz.ntmps66
    go_wp2_with fail
    go_ret2
    refine ⟨⟨_, ret_pairB He.out, ?_⟩, Below.refl _ _⟩
    rw [He.out]; exact SlV.nil_ _ _ _
  have hb : (s.toList == [47]) = false := slash_false h1
  have HR : Hid (parseR s = match pathOf s with | none => ([], false) | some p => (p, true)) := by unfold Hid parseR; rw [if_neg h1]; first | done | (cases pathOf s <;> rfl)
  have Hpre : Hid (∀ W, Calls Tryz.prog 118 #[.string s, .string ⟨#[47, 109, 111, 100, 117, 108, 101, 115, 47]⟩] W fun e w' => e = .returned (.bool (stepB.data.toList.isPrefixOf s.data.toList)) ∧ w' = W) := fun W => Tryz.strings_HasPrefix s stepB W
  clear h1
  cases hp : stepB.data.toList.isPrefixOf s.data.toList
  · have He : Hid (parseR s = ([], false)) := by unfold Hid; rw [HR.out, pathOf_noprefix hp]
    rw [hp] at Hpre
    clear hp HR hm hs
    generalize parseR s = R at *
    go_enter Tryz.func66, Tryz.ntmps66
    go_wp2_with fail
    refine (Hpre.out _).mono ?_
    rintro e w1 ⟨rfl, rfl⟩
    go_wp2_with fail
    go_ret2
    refine ⟨⟨_, ret_pairB He.out, ?_⟩, Below.refl _ _⟩
    rw [He.out]; exact SlV.nil_ _ _ _
  rw [hp] at Hpre
  obtain ⟨t, ht⟩ := List.isPrefixOf_iff_prefix.1 hp
  have hst : s.data.toList = stepB.data.toList ++ (s.extract 9 s.size).data.toList := by
    rw [Lib.extract_to_end, ← ht]
    rw [show (9 : Nat) = stepB.data.toList.length by decide +kernel, List.drop_left]
  have h9 : 9 ≤ s.size := by
    rw [size_data s, ← ht, List.length_append, show stepB.data.toList.length = 9 by decide +kernel]
    omega
  obtain ⟨q1, q2⟩ := pathOf_split (s := s) (r := s.extract 9 s.size) hst
  have hrs : (s.extract 9 s.size).size ≤ s.size := by rw [ByteArray.size_extract]; omega
  have hsl := splitB_size stepB (Lib.countB (s.extract 9 s.size) stepB) (s.extract 9 s.size)
  have hln := Lib.splitB_all stepB (by decide +kernel) 0 _ (s.extract 9 s.size) rfl
  have hcl := Lib.countB_le stepB (by decide +kernel) _ (s.extract 9 s.size) (Nat.le_refl _)
  have h9I : (9 : Int) ≤ (s.size : Int) := by omega
  obtain ⟨m, hm⟩ := hm
  have Hsp : Hid (Calls Tryz.prog 119 #[.string (s.extract 9 s.size), .string ⟨#[47, 109, 111, 100, 117, 108, 101, 115, 47]⟩] w fun e w' => e = .returned (.slice (some ⟨w.heap.size, 0, none⟩) (Lib.countB (s.extract 9 s.size) stepB + 1) (Lib.countB (s.extract 9 s.size) stepB + 1)) ∧ w' = w.alloc (.cells ((Lib.splitB stepB 0 (Lib.countB (s.extract 9 s.size) stepB) (s.extract 9 s.size)).map Value.string).toArray 9)) :=
    Tryz.strings_Split (s.extract 9 s.size) stepB m w (by omega) hm (by decide +kernel)
  have Hq1 := Lib.hid q1
  have Hq2 := Lib.hid q2
  have Hsl := Lib.hid hsl
  have Hln := Lib.hid hln
  clear hp ht hst q1 q2 hsl hln hm
  generalize hcc : Lib.countB (s.extract 9 s.size) stepB = cc at *
  generalize hpp : Lib.splitB stepB 0 cc (s.extract 9 s.size) = pp at *
  clear hcc hpp
  generalize parseR s = R at *
  go_enter Tryz.func66, Tryz.ntmps66
  go_wp2_with fail
  refine (Hpre.out _).mono ?_
  rintro e w1 ⟨rfl, rfl⟩
  go_wp2_with fail
  refine Hsp.out.mono ?_
  rintro e w2 ⟨rfl, hw2⟩
  have HV : Hid (SlV rStr w2 (fun b => b < w2.heap.size) pp (.slice (some ⟨w1.heap.size, 0, none⟩) (cc + 1) (cc + 1))) := by
    unfold Hid
    rw [hw2]
    exact SlV.of_block (heap_new _ _) (by rw [List.toList_toArray]; exact elems_strs fun x hx => by have := Hsl.out x hx; unfold maxLen; omega) (by rw [World.size_alloc]; omega) Hln.out.symm (by rw [Hln.out]; exact Nat.le_refl _) (by unfold maxLen; omega)
  have HB : Hid (Below w1.heap.size w1 w2) := by unfold Hid; rw [hw2]; exact bal (Below.refl _ _) _
  clear hw2 Hsp
  have HB1 : Hid (∀ w3, Below w2.heap.size w2 w3 → Below w1.heap.size w1 w3) := fun w3 h => bot HB.out h
  obtain ⟨g, hg⟩ : ∃ g, g = w1.heap.size := ⟨_, rfl⟩
  rw [← hg] at HV ⊢
  clear hg
  go_wp2_with fail
  refine (treeText_any _ _ _ pp w2 _ (fun b h => h) (by rw [Hln.out]; omega) HV.out).mono ?_
  rintro e w3 ⟨rfl, B3⟩
  have HV3 : Hid (SlV rStr w3 (fun _ => True) pp (.slice (some ⟨g, 0, none⟩) (cc + 1) (cc + 1))) := (HV.out.belowSize B3).more fun _ _ _ => trivial
  by_cases ht : textB pp = s
  · have htb := beq_true ht
    have He : Hid (R = (pp, true)) := by unfold Hid; rw [HR.out, Hq1.out ht]
    clear ht
    go_wp2_with fail
    go_ret2
    refine ⟨⟨_, ret_pairB He.out, ?_⟩, HB1.out _ B3⟩
    rw [He.out]; exact HV3.out
  · have htb := beq_false ht
    have He : Hid (R = ([], false)) := by unfold Hid; rw [HR.out, Hq2.out ht]
    clear ht
    go_wp2_with fail
    go_ret2
    refine ⟨⟨_, ret_pairB He.out, ?_⟩, HB1.out _ B3⟩
    rw [He.out]; exact SlV.nil_ _ _ _
end Go.Proofs.YthbnmehbhpakaaaGreatDoor
set_option autoImplicit false
set_option relaxedAutoImplicit false
set_option linter.unusedVariables false
set_option linter.unusedSimpArgs false
namespace Go.Proofs.YthbnmehbhpakaaaGreatDoor
open Go.Rows Go.RowKit Go.Shelf

/-- a text's pieces between slashes; ahead of the first: what is read already -/
def cutS : List UInt8 → List UInt8 → List (List UInt8)
  | acc, [] => [acc]
  | acc, c :: t => if c = 47 then acc :: cutS [] t else cutS (acc ++ [c]) t
theorem cutS_none : ∀ (l acc : List UInt8), (∀ b ∈ l, b ≠ 47) → cutS acc l = [acc ++ l]
  | [], acc, _ => by rw [cutS, List.append_nil]
  | c :: t, acc, h => by
    rw [cutS, if_neg (h c (by simp)), cutS_none t _ (fun b hb => h b (by simp [hb]))]
    simp
theorem cutS_at : ∀ (l acc r : List UInt8), (∀ b ∈ l, b ≠ 47) → cutS acc (l ++ 47 :: r) = (acc ++ l) :: cutS [] r
  | [], acc, r, _ => by rw [List.nil_append, cutS, if_pos rfl, List.append_nil]
  | c :: t, acc, r, h => by
    rw [List.cons_append, cutS, if_neg (h c (by simp)), cutS_at t _ r (fun b hb => h b (by simp [hb]))]
    simp
theorem cut47 : ∀ l : List UInt8, (∀ b ∈ l, b ≠ 47) ∨ ∃ a r, l = a ++ 47 :: r ∧ ∀ b ∈ a, b ≠ 47
  | [] => .inl fun b hb => by cases hb
  | c :: t => by
    by_cases h : c = 47
    · subst h; exact .inr ⟨[], t, rfl, fun b hb => by cases hb⟩
    · rcases cut47 t with h1 | ⟨a, r, h1, h2⟩
      · refine .inl fun b hb => ?_
        rcases List.mem_cons.1 hb with e | e
        · rw [e]; exact h
        · exact h1 b e
      · refine .inr ⟨c :: a, r, by rw [h1]; rfl, fun b hb => ?_⟩
        rcases List.mem_cons.1 hb with e | e
        · rw [e]; exact h
        · exact h2 b e
theorem index47_none : ∀ l : List UInt8, (∀ b ∈ l, b ≠ 47) → Lib.index l [47] = -1
  | [], _ => rfl
  | c :: t, h => by
    have hb : (47 == c) = false := by have := h c (by simp); simpa using fun e => this e.symm
    unfold Lib.index
    rw [List.isPrefixOf, hb, Bool.false_and, index47_none t fun b hb => h b (by simp [hb])]
    rfl
theorem index47_at : ∀ l r : List UInt8, (∀ b ∈ l, b ≠ 47) → Lib.index (l ++ 47 :: r) [47] = (l.length : Int)
  | [], r, _ => by
    rw [List.nil_append]
    unfold Lib.index
    rw [show [47].isPrefixOf (47 :: r) = true from by simp [List.isPrefixOf]]
    rfl
  | c :: t, r, h => by
    have hb : (47 == c) = false := by have := h c (by simp); simpa using fun e => this e.symm
    rw [List.cons_append]
    unfold Lib.index
    rw [List.isPrefixOf, hb, Bool.false_and, index47_at t r fun b hb => h b (by simp [hb])]
    have hne : ((t.length : Int) == -1) = false := by simp
    rw [hne]
    simp
def slashB : ByteArray := ⟨#[47]⟩
def mkS (l : List UInt8) : ByteArray := ⟨l.toArray⟩
theorem split47 : ∀ (n : Nat) (s : ByteArray), s.size ≤ n → Lib.splitB slashB 0 (Lib.countB s slashB) s = (cutS [] s.data.toList).map mkS := by
  intro n
  induction n with
  | zero =>
    intro s hs
    have e : s.data.toList = [] := List.eq_nil_of_length_eq_zero (by rw [← size_data]; omega)
    have hi : Lib.indexB s slashB = -1 := index47_none _ (by rw [e]; intro b hb; cases hb)
    rw [Lib.countB_miss s slashB hi, Lib.splitB_zero, cutS_none _ _ (by rw [e]; intro b hb; cases hb)]
    exact congrArg (fun x => [x]) (ByteArray.ext (Array.ext' (by simp [mkS])))
  | succ n ih =>
    intro s hs
    rcases cut47 s.data.toList with h | ⟨a, r, h1, h2⟩
    · have hi : Lib.indexB s slashB = -1 := index47_none _ h
      rw [Lib.countB_miss s slashB hi, Lib.splitB_zero, cutS_none _ _ h]
      exact congrArg (fun x => [x]) (ByteArray.ext (Array.ext' (by simp [mkS])))
    · have hi : Lib.indexB s slashB = (a.length : Int) := by
        show Lib.index s.data.toList [47] = _
        rw [h1]; exact index47_at a r h2
      have hsz : slashB.size = 1 := rfl
      have hss : s.size = a.length + (r.length + 1) := by rw [size_data, h1, List.length_append, List.length_cons]
      rw [Lib.countB_hit s slashB a.length (by rw [hsz]; omega) hi, Nat.add_comm 1, Lib.splitB_hit slashB 0 _ s _ hi]
      have e1 : s.extract 0 (a.length + 0) = mkS a := by
        apply ByteArray.ext
        apply Array.ext'
        rw [Lib.extract_from_zero, h1, Nat.add_zero, List.take_left]
        simp [mkS]
      have e2 : (s.extract (a.length + slashB.size) s.size).data.toList = r := by
        rw [Lib.extract_to_end, h1, hsz, show a ++ 47 :: r = (a ++ [47]) ++ r by simp, show a.length + 1 = (a ++ [47]).length by simp, List.drop_left]
      have e3 := ih (s.extract (a.length + slashB.size) s.size) (by rw [ByteArray.size_extract, hsz]; omega)
      rw [e1, e3, e2, h1, cutS_at a [] r h2]
      rfl
/-- is a text a path other than the root's -/
def diskPathB (s : ByteArray) : Bool := decide (s.size ≤ 4096) && match s.data.toList with
  | [] => false
  | c :: r => decide (c = 47) && (cutS [] r).all fun l => pieceB (mkS l)

set_option maxHeartbeats 1600000 in
set_option maxRecDepth 100000 in
theorem diskBelow_any (s : ByteArray) (hs : s.size ≤ 67108864) (w : World) (hm : MaxL w) :
    Calls Tryz.prog 58 #[.string s] w fun e w' => e = .returned (.bool (diskPathB s)) ∧ Below w.heap.size w w' := by
  by_cases h1 : 4096 < s.size
  · have Hn : Hid (diskPathB s = false) := by unfold Hid diskPathB; rw [decide_eq_false (by omega)]; rfl
    have h1I : (4096 : Int) < s.size := by omega
    clear h1 hm
    go_enter Tryz.func58, Tryz.ntmps58
    go_wp2_with fail
    go_ret
    exact ⟨ret_bool Hn.out.symm, Below.refl _ _⟩
  have h1I : ¬ (4096 : Int) < s.size := by omega
  have Hpre : Hid (∀ W, Calls Tryz.prog 118 #[.string s, .string ⟨#[47]⟩] W fun e w' => e = .returned (.bool ([47].isPrefixOf s.data.toList)) ∧ w' = W) := fun W => Tryz.strings_HasPrefix s ⟨#[47]⟩ W
  cases hp : [47].isPrefixOf s.data.toList with
  | false =>
    have Hn : Hid (diskPathB s = false) := by
      unfold Hid diskPathB
      cases hd : s.data.toList with
      | nil => simp
      | cons c r =>
        rw [hd, List.isPrefixOf] at hp
        have : decide (c = 47) = false := by
          simp at hp
          exact decide_eq_false fun e => hp e.symm
        simp only [this]; simp
    rw [hp] at Hpre
    clear h1 hm hp
    go_enter Tryz.func58, Tryz.ntmps58
    go_wp2_with fail
    refine (Hpre.out _).mono ?_
    rintro e w1 ⟨rfl, rfl⟩
    go_wp2_with fail
    go_ret
    exact ⟨ret_bool Hn.out.symm, Below.refl _ _⟩
  | true =>
    obtain ⟨r, hr⟩ : ∃ r, s.data.toList = 47 :: r := by
      obtain ⟨t, ht⟩ := List.isPrefixOf_iff_prefix.1 hp
      exact ⟨t, ht.symm⟩
    have he : (s.extract 1 s.size).data.toList = r := by rw [Lib.extract_to_end, hr]; rfl
    have hs1 : 1 ≤ s.size := by rw [size_data, hr]; simp
    have hsp := split47 _ (s.extract 1 s.size) (Nat.le_refl _)
    rw [he] at hsp
    have hln := Lib.splitB_all slashB (by decide +kernel) 0 _ (s.extract 1 s.size) rfl
    have hsl := splitB_size slashB (Lib.countB (s.extract 1 s.size) slashB) (s.extract 1 s.size)
    have hcl := Lib.countB_le slashB (by decide +kernel) _ (s.extract 1 s.size) (Nat.le_refl _)
    have hrs : (s.extract 1 s.size).size ≤ s.size := by rw [ByteArray.size_extract]; omega
    have Hq : Hid (diskPathB s = ((cutS [] r).map mkS).all pieceB) := by
      unfold Hid diskPathB
      rw [hr, decide_eq_true (p := s.size ≤ 4096) (by omega), List.all_map]
      rfl
    obtain ⟨m, hm⟩ := hm
    have Hsp : Hid (∀ W, W.cell? ⟨0, 0, none⟩ = some (.int .i64 m) → Calls Tryz.prog 119 #[.string (s.extract 1 s.size), .string ⟨#[47]⟩] W fun e w' => e = .returned (.slice (some ⟨W.heap.size, 0, none⟩) (Lib.countB (s.extract 1 s.size) slashB + 1) (Lib.countB (s.extract 1 s.size) slashB + 1)) ∧ w' = W.alloc (.cells ((Lib.splitB slashB 0 (Lib.countB (s.extract 1 s.size) slashB) (s.extract 1 s.size)).map Value.string).toArray 9)) :=
      fun W hW => Tryz.strings_Split (s.extract 1 s.size) slashB m W (by omega) hW (by decide +kernel)
    rw [hsp] at hln hsl Hsp
    rw [hp] at Hpre
    have Hm := Lib.hid hm
    have Hln := Lib.hid hln
    have Hsl := Lib.hid hsl
    have hs1I : (1 : Int) ≤ (s.size : Int) := by omega
    clear hp hr he hsp hln hsl hm h1
    generalize hcc : Lib.countB (s.extract 1 s.size) slashB = cc at *
    generalize (cutS [] r).map mkS = pp at *
    clear hcc
    go_enter Tryz.func58, Tryz.ntmps58
    go_wp2_with fail
    refine (Hpre.out _).mono ?_
    rintro e w1 ⟨rfl, rfl⟩
    go_wp2_with fail
    refine (Hsp.out _ Hm.out).mono ?_
    rintro e w2 ⟨rfl, hw2⟩
    have HV : Hid (SlV rStr w2 (fun b => b < w2.heap.size) pp (.slice (some ⟨w1.heap.size, 0, none⟩) (cc + 1) (cc + 1))) := by
      unfold Hid
      rw [hw2]
      exact SlV.of_block (heap_new _ _) (by rw [List.toList_toArray]; exact elems_strs fun x hx => by have := Hsl.out x hx; unfold maxLen; omega) (by rw [World.size_alloc]; omega) Hln.out.symm (by rw [Hln.out]; exact Nat.le_refl _) (by unfold maxLen; omega)
    have HB : Hid (Below w1.heap.size w1 w2) := by unfold Hid; rw [hw2]; exact bal (Below.refl _ _) _
    clear hw2 Hsp
    obtain ⟨g, hg⟩ : ∃ g, g = w1.heap.size := ⟨_, rfl⟩
    obtain ⟨N, hN⟩ : ∃ N, N = cc + 1 := ⟨_, rfl⟩
    rw [← hg, ← hN] at HV ⊢
    rw [← hN] at Hln
    clear hg Hpre
    have hN2 : N ≤ 67108870 := by omega
    clear hN
    have Hle : Hid (∀ x ∈ pp, x.size ≤ maxLen) := fun x hx => by have := Hsl.out x hx; unfold maxLen; omega
    have HP : Hid (∀ x, x ∈ pp → ∀ W, Calls Tryz.prog 120 #[.string x] W fun e w' => e = .returned (.bool (pieceB x)) ∧ Below W.heap.size W w') := fun x hx W => diskPart_any x (Hle.out x hx) W
    go_wp2_with fail
    clear h1I hs1I
    go_loopw [17] (fun i wr => ∃ k : Nat, k ≤ N ∧ i = .int .i64 k ∧ Hid (Below w2.heap.size w2 wr) ∧ Hid (pp.all pieceB = (pp.drop k).all pieceB)) (fun i _ => N - (intOf i).toNat)
    case atStart => exact ⟨0, Nat.zero_le _, rfl, Below.refl _ _, rfl⟩
    case round =>
      obtain ⟨k, hk, rfl, HBw, hrl⟩ := hrel
      by_cases hlt : k < N
      · have hkI : (k : Int) < (N : Int) := by omega
        have hkp : k < pp.length := by rw [Hln.out]; exact hlt
        have hx := List.getElem?_eq_getElem hkp
        have hxm : pp[k] ∈ pp := List.getElem_mem hkp
        have hst : (pp.drop k).all pieceB = (pieceB pp[k] && (pp.drop (k + 1)).all pieceB) := by rw [List.drop_eq_getElem_cons hkp, List.all_cons]
        generalize pp[k] = x at *
        have HPx := Lib.hid (HP.out x hxm)
        obtain ⟨b, o, cs, hA, _, _, hcs, hcell⟩ := (HV.out.belowSize HBw.out).elem hx
        simp only [Option.some.injEq, Addr.mk.injEq, and_true] at hA
        obtain ⟨rfl, rfl⟩ := hA
        have c0 := hcell 0 _ (by rw [hcs.1]; rfl)
        rw [show 0 + k * rStr.size + 0 = k from by show 0 + k * 1 + 0 = k; omega] at c0
        have Hst := Lib.hid hst
        clear hcell hcs hx hxm hkp hst
        go_wp2_with fail
        refine (HPx.out _).mono ?_
        rintro e w3 ⟨rfl, hb3⟩
        have HB3 := Lib.hid (bot HBw.out hb3)
        cases hpc : pieceB x with
        | true =>
          have hok : Hid (pp.all pieceB = (pp.drop (k + 1)).all pieceB) := by
            unfold Hid; rw [hrl.out, Hst.out, hpc]; rfl
          clear hb3 c0 hrl Hst hpc HBw HPx
          go_wp2_with fail
          go_roundw
          case rel => exact ⟨k + 1, by omega, by go_num, HB3, hok⟩
          case measure => simp [intOf]; omega
        | false =>
          have hbad : Hid (diskPathB s = false) := by
            unfold Hid; rw [Hq.out, hrl.out, Hst.out, hpc]; rfl
          clear hb3 c0 hrl Hst hpc HBw HPx
          go_wp2_with fail
          go_ret
          exact ⟨ret_bool hbad.out.symm, bot HB.out HB3.out⟩
      · have hkI : ¬ (k : Int) < (N : Int) := by omega
        have hok : Hid (diskPathB s = true) := by
          unfold Hid; rw [Hq.out, hrl.out, List.drop_eq_nil_of_le (by rw [Hln.out]; omega)]; rfl
        clear hrl
        go_wp2_with fail
        go_ret
        exact ⟨ret_bool hok.out.symm, bot HB.out HBw.out⟩
end Go.Proofs.YthbnmehbhpakaaaGreatDoor
set_option autoImplicit false
set_option relaxedAutoImplicit false
set_option linter.unusedVariables false
set_option linter.unusedSimpArgs false
namespace Go.Proofs.YthbnmehbhpakaaaGreatDoor
open Go.Rows Go.RowKit Go.Shelf

end Go.Proofs.YthbnmehbhpakaaaGreatDoor
set_option autoImplicit false
set_option relaxedAutoImplicit false
set_option linter.unusedVariables false
set_option linter.unusedSimpArgs false
namespace Go.Proofs.YthbnmehbhpakaaaGreatDoor
open Go.Rows Go.RowKit Go.Shelf

/-- where a path first stands -/
def findF : List File → ByteArray → Option Nat
  | [], _ => none
  | f :: t, p => if f.path = p then some 0 else (findF t p).map (· + 1)
theorem ret_i {a b : Int} (h : a = b) : Ending.returned (.int .i64 a) = .returned (.int .i64 b) := by rw [h]

/-- what stands at a path: 0 nothing, 1 a file, 2 a directory -/
def kindF (l : List File) (p : ByteArray) : Int := if p = slashB then 2 else match (findF l p).bind (l[·]?) with
  | none => 0
  | some f => if f.dir = true then 2 else 1
theorem findF_some : ∀ {l : List File} {p : ByteArray} {k : Nat}, findF l p = some k → ∃ x, l[k]? = some x ∧ x.path = p
  | [], p, k, h => by rw [findF] at h; cases h
  | f :: t, p, k, h => by
    rw [findF] at h
    by_cases e : f.path = p
    · rw [if_pos e] at h
      cases h
      exact ⟨f, rfl, e⟩
    · rw [if_neg e] at h
      cases hq : findF t p with
      | none => rw [hq] at h; cases h
      | some q =>
        rw [hq] at h
        simp only [Option.map_some, Option.some.injEq] at h
        subst h
        obtain ⟨x, h1, h2⟩ := findF_some hq
        exact ⟨x, h1, h2⟩

end Go.Proofs.YthbnmehbhpakaaaGreatDoor
