/-
  tree.Parse and the document's Parse: the path that a text is.
-/
import Derived.Test.YtkpbpnecmfadlaaGreatDoorRestP
import Derived.Test.YtkpbpnecmfadlaaGreatDoorSpanR
import Derived.Test.YtkpbpnecmfadlaaGreatDoorFind
import Derived.Test.YtkpbpnecmfadlaaGreatDoorShelf
set_option autoImplicit false
set_option relaxedAutoImplicit false
set_option linter.unusedVariables false
set_option linter.unusedSimpArgs false
namespace Go.Proofs.YtkpbpnecmfadlaaGreatDoor
open Go.Rows Go.RowKit Go.Shelf Go.Sort

/-- internal/bytealg.MaxLen holds an int -/
def MaxL (w : World) : Prop := ∃ m, w.cell? ⟨0, 0, none⟩ = some (.int .i64 m)
theorem MaxL.below {w w' : World} (h : MaxL w) (hb : Below w.heap.size w w') : MaxL w' := by
  obtain ⟨m, hm⟩ := h
  exact ⟨m, below_cell hb hm (cell_lt hm)⟩
theorem splitB_size (sep : ByteArray) : ∀ (k : Nat) (s : ByteArray), ∀ x ∈ Lib.splitB sep 0 k s, x.size ≤ s.size := by
  intro k
  induction k with
  | zero => intro s x hx; simp [Lib.splitB] at hx; subst hx; exact Nat.le_refl _
  | succ k ih =>
    intro s x hx
    unfold Lib.splitB at hx
    split at hx
    · simp at hx; subst hx; exact Nat.le_refl _
    · rcases List.mem_cons.1 hx with rfl | hx
      · rw [ByteArray.size_extract]; omega
      · have := ih _ x hx
        rw [ByteArray.size_extract] at this
        omega
theorem elems_strs {w : World} {S : Nat → Prop} : ∀ {l : List ByteArray}, (∀ x ∈ l, x.size ≤ maxLen) → Elems rStr w S l (l.map Value.string) := by
  intro l
  induction l with
  | nil => intro _; rfl
  | cons x l ih => intro h; exact ⟨[.string x], _, rfl, ⟨rfl, h x (by simp)⟩, ih fun y hy => h y (by simp [hy])⟩
theorem slash_true {s : ByteArray} (h : s = ⟨#[47]⟩) : (s.toList == [47]) = true := by
  rw [h, Go.ByteArray.toList_eq]; rfl
theorem slash_false {s : ByteArray} (h : s ≠ ⟨#[47]⟩) : (s.toList == [47]) = false := by
  have : s.toList ≠ [47] := fun e => h (ByteArray.ext (Array.ext' (by rw [Go.ByteArray.toList_eq] at e; exact e)))
  simpa using this
theorem ret_pairB {v : Value} {R : List ByteArray × Bool} {r : List ByteArray} {z : Bool} (h : R = (r, z)) : Ending.returned (.tuple #[v, .bool z]) = .returned (.tuple #[v, .bool R.2]) := by rw [h]

set_option maxHeartbeats 1600000 in
set_option maxRecDepth 100000 in
theorem parse_any (s : ByteArray) (w : World) (hs : s.size ≤ 67108864) (hm : MaxL w) :
    Calls Tryz.prog 19 #[.string s] w fun e w' => (∃ v, e = .returned (.tuple #[v, .bool (parseR s).2]) ∧ SlV rStr w' (fun _ => True) (parseR s).1 v) ∧ Below w.heap.size w w' := by
  by_cases h1 : s = ⟨#[47]⟩
  · have hb : (s.toList == [47]) = true := slash_true h1
    have He : Hid (parseR s = ([], true)) := by unfold Hid parseR; rw [if_pos h1]
    clear h1 hm hs
    generalize parseR s = R at *
    go_enter Tryz.func19, Tryz.ntmps19
    go_wp2_with fail
    go_ret2
    refine ⟨⟨_, ret_pairB He.out, ?_⟩, Below.refl _ _⟩
    rw [He.out]; exact SlV.nil_ _ _ _
  have hb : (s.toList == [47]) = false := slash_false h1
  have HR : Hid (parseR s = match pathOf s with | none => ([], false) | some p => (p, true)) := by unfold Hid parseR; rw [if_neg h1]; cases pathOf s <;> rfl
  have Hpre : Hid (∀ W, Calls Tryz.prog 29 #[.string s, .string ⟨#[47, 109, 111, 100, 117, 108, 101, 115, 47]⟩] W fun e w' => e = .returned (.bool (stepB.data.toList.isPrefixOf s.data.toList)) ∧ w' = W) := fun W => Tryz.strings_HasPrefix s stepB W
  clear h1
  cases hp : stepB.data.toList.isPrefixOf s.data.toList
  · have He : Hid (parseR s = ([], false)) := by unfold Hid; rw [HR.out, pathOf_noprefix hp]
    rw [hp] at Hpre
    clear hp HR hm hs
    generalize parseR s = R at *
    go_enter Tryz.func19, Tryz.ntmps19
    go_wp2_with fail
    refine (Hpre.out _).mono ?_
    rintro e w1 ⟨rfl, rfl⟩
    go_wp2_with fail
    go_ret2
    refine ⟨⟨_, ret_pairB He.out, ?_⟩, Below.refl _ _⟩
    rw [He.out]; exact SlV.nil_ _ _ _
  rw [hp] at Hpre
  obtain ⟨t, ht⟩ := List.isPrefixOf_iff_prefix.1 hp
  have hst : s.data.toList = stepB.data.toList ++ (s.extract 9 s.size).data.toList := by
    rw [Lib.extract_to_end, ← ht]
    rw [show (9 : Nat) = stepB.data.toList.length by decide +kernel, List.drop_left]
  have h9 : 9 ≤ s.size := by
    rw [size_data s, ← ht, List.length_append, show stepB.data.toList.length = 9 by decide +kernel]
    omega
  obtain ⟨q1, q2⟩ := pathOf_split (s := s) (r := s.extract 9 s.size) hst
  have hrs : (s.extract 9 s.size).size ≤ s.size := by rw [ByteArray.size_extract]; omega
  have hsl := splitB_size stepB (Lib.countB (s.extract 9 s.size) stepB) (s.extract 9 s.size)
  have hln := Lib.splitB_all stepB (by decide +kernel) 0 _ (s.extract 9 s.size) rfl
  have hcl := Lib.countB_le stepB (by decide +kernel) _ (s.extract 9 s.size) (Nat.le_refl _)
  have h9I : (9 : Int) ≤ (s.size : Int) := by omega
  obtain ⟨m, hm⟩ := hm
  have Hsp : Hid (Calls Tryz.prog 30 #[.string (s.extract 9 s.size), .string ⟨#[47, 109, 111, 100, 117, 108, 101, 115, 47]⟩] w fun e w' => e = .returned (.slice (some ⟨w.heap.size, 0, none⟩) (Lib.countB (s.extract 9 s.size) stepB + 1) (Lib.countB (s.extract 9 s.size) stepB + 1)) ∧ w' = w.alloc (.cells ((Lib.splitB stepB 0 (Lib.countB (s.extract 9 s.size) stepB) (s.extract 9 s.size)).map Value.string).toArray 9)) :=
    Tryz.strings_Split (s.extract 9 s.size) stepB m w (by omega) hm (by decide +kernel)
  have Hq1 := Lib.hid q1
  have Hq2 := Lib.hid q2
  have Hsl := Lib.hid hsl
  have Hln := Lib.hid hln
  clear hp ht hst q1 q2 hsl hln hm
  generalize hcc : Lib.countB (s.extract 9 s.size) stepB = cc at *
  generalize hpp : Lib.splitB stepB 0 cc (s.extract 9 s.size) = pp at *
  clear hcc hpp
  generalize parseR s = R at *
  go_enter Tryz.func19, Tryz.ntmps19
  go_wp2_with fail
  refine (Hpre.out _).mono ?_
  rintro e w1 ⟨rfl, rfl⟩
  go_wp2_with fail
  refine Hsp.out.mono ?_
  rintro e w2 ⟨rfl, hw2⟩
  have HV : Hid (SlV rStr w2 (fun b => b < w2.heap.size) pp (.slice (some ⟨w1.heap.size, 0, none⟩) (cc + 1) (cc + 1))) := by
    unfold Hid
    rw [hw2]
    exact SlV.of_block (heap_new _ _) (by rw [List.toList_toArray]; exact elems_strs fun x hx => by have := Hsl.out x hx; unfold maxLen; omega) (by rw [World.size_alloc]; omega) Hln.out.symm (by rw [Hln.out]; exact Nat.le_refl _) (by unfold maxLen; omega)
  have HB : Hid (Below w1.heap.size w1 w2) := by unfold Hid; rw [hw2]; exact bal (Below.refl _ _) _
  clear hw2 Hsp
  have HB1 : Hid (∀ w3, Below w2.heap.size w2 w3 → Below w1.heap.size w1 w3) := fun w3 h => bot HB.out h
  obtain ⟨g, hg⟩ : ∃ g, g = w1.heap.size := ⟨_, rfl⟩
  rw [← hg] at HV ⊢
  clear hg
  go_wp2_with fail
  refine (treeText_any _ _ _ pp w2 _ (fun b h => h) (by rw [Hln.out]; omega) HV.out).mono ?_
  rintro e w3 ⟨rfl, B3⟩
  have HV3 : Hid (SlV rStr w3 (fun _ => True) pp (.slice (some ⟨g, 0, none⟩) (cc + 1) (cc + 1))) := (HV.out.belowSize B3).more fun _ _ _ => trivial
  by_cases ht : textB pp = s
  · have htb := beq_true ht
    have He : Hid (R = (pp, true)) := by unfold Hid; rw [HR.out, Hq1.out ht]
    clear ht
    go_wp2_with fail
    go_ret2
    refine ⟨⟨_, ret_pairB He.out, ?_⟩, HB1.out _ B3⟩
    rw [He.out]; exact HV3.out
  · have htb := beq_false ht
    have He : Hid (R = ([], false)) := by unfold Hid; rw [HR.out, Hq2.out ht]
    clear ht
    go_wp2_with fail
    go_ret2
    refine ⟨⟨_, ret_pairB He.out, ?_⟩, HB1.out _ B3⟩
    rw [He.out]; exact SlV.nil_ _ _ _
end Go.Proofs.YtkpbpnecmfadlaaGreatDoor
