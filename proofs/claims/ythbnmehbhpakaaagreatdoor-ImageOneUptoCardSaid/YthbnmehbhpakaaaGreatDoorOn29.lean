/-
  A path without its last part: the program's parent and the document's Parent, walked.
  A path's text cut at its steps: the path again.
  tree.Parse and the document's Parse: the path that a text is.
  A disk's paths: cut at slashes (plain); the program's below, walked.
  A disk's paths: the document's Path, walked.
  The document's disk: find and Kind, walked.
  The program's disk: a map of things by their paths: looked up and written.
  The program's disk: Kind, walked.
  What stands at a path, told by membership: lists of files whose paths are apart (plain).
  A disk's files, may they be loaded: plain words for both Loads.
-/
import Derived.Test.YthbnmehbhpakaaaGreatDoorOn28
import Derived.Test.YthbnmehbhpakaaaGreatDoorOn04
import Derived.Lib.LastIndexByte
import Derived.Test.YthbnmehbhpakaaaGreatDoorOn19
import Derived.Lib.SplitLaws
import Derived.Test.YthbnmehbhpakaaaGreatDoorOn10
import Derived.Test.YthbnmehbhpakaaaGreatDoorOn07
import Derived.Test.YthbnmehbhpakaaaGreatDoorOn03
import Derived.Test.YthbnmehbhpakaaaGreatDoorOn09
import Derived.Maps.OwnSet
set_option autoImplicit false
set_option relaxedAutoImplicit false
set_option linter.unusedVariables false
set_option linter.unusedSimpArgs false
namespace Go.Proofs.YthbnmehbhpakaaaGreatDoor
open Go.Rows Go.RowKit Go.Shelf

/-- a path without its last part -/
def upS (s : ByteArray) : ByteArray := if Lib.lastIndexByte s 47 ≤ 0 then ⟨#[47]⟩ else s.extract 0 (Lib.lastIndexByte s 47).toNat
theorem data_at {s : ByteArray} {j : Nat} (h : j < s.size) : s.data[j]! = s[j] := by
  rw [getElem!_pos s.data j h]; rfl
theorem up_spec (s : ByteArray) : (Lib.lastIndexByte s 47 ≤ 0 ∧ upS s = ⟨#[47]⟩ ∧ ∀ j : Nat, 0 < j → ∀ h : j < s.size, (s[j].toNat : Int) ≠ 47) ∨
    ∃ i : Nat, 0 < i ∧ Lib.lastIndexByte s 47 = i ∧ upS s = s.extract 0 i ∧ ∃ h : i < s.size, (s[i].toNat : Int) = 47 ∧ ∀ j : Nat, i < j → ∀ h : j < s.size, (s[j].toNat : Int) ≠ 47 := by
  rcases Lib.lastIndexByte_spec s 47 with ⟨h1, h2⟩ | ⟨i, h1, h2, h3, h4⟩
  · refine .inl ⟨by omega, by unfold upS; rw [if_pos (by omega)], fun j _ h => ?_⟩
    have := h2 j h
    rwa [data_at h] at this
  · by_cases h0 : i = 0
    · subst h0
      refine .inl ⟨by omega, by unfold upS; rw [if_pos (by omega)], fun j hj h => ?_⟩
      have := h4 j hj h
      rwa [data_at h] at this
    · refine .inr ⟨i, by omega, h2, by unfold upS; rw [if_neg (by omega), h2]; rfl, h1, by rw [← data_at h1]; exact h3, fun j hj h => ?_⟩
      have := h4 j hj h
      rwa [data_at h] at this

theorem ret_strE {a b : ByteArray} (h : a = b) : Ending.returned (.string a) = .returned (.string b) := by rw [h]

theorem diskParent_any (s : ByteArray) (hs : s.size ≤ 1073741824) (w : World) :
    Calls Tryz.prog 60 #[.string s] w fun e w' => e = .returned (.string (upS s)) ∧ w' = w := by
  have HL : Hid (∀ W, Calls Tryz.prog 121 #[.string s, .int .u8 47] W fun e w' => e = .returned (.int .i64 (Lib.lastIndexByte s 47)) ∧ w' = W) := fun W => Tryz.strings_LastIndexByte s 47 (by omega) W
  rcases up_spec s with ⟨h1, h2, _⟩ | ⟨i, h0, h1, h2, h3, _⟩
  · have H2 := Lib.hid h2
    clear h2
    generalize Lib.lastIndexByte s 47 = z at *
    go_enter Tryz.func60, Tryz.ntmps60
    go_wp2_with fail
    refine (HL.out _).mono ?_
    rintro e w1 ⟨rfl, rfl⟩
    go_wp2_with fail
    go_ret
    exact ⟨ret_strE H2.out.symm, rfl⟩
  · have H2 := Lib.hid h2
    rw [h1] at HL
    clear h2 h1
    have hiI : ¬ (i : Int) ≤ 0 := by omega
    have hi0 : (0 : Int) ≤ (i : Int) := by omega
    have hi1 : (i : Int) ≤ (s.size : Int) := by omega
    go_enter Tryz.func60, Tryz.ntmps60
    go_wp2_with fail
    refine (HL.out _).mono ?_
    rintro e w1 ⟨rfl, rfl⟩
    go_wp2_with fail
    go_ret
    exact ⟨ret_strE H2.out.symm, rfl⟩

end Go.Proofs.YthbnmehbhpakaaaGreatDoor
set_option autoImplicit false
set_option relaxedAutoImplicit false
set_option linter.unusedVariables false
set_option linter.unusedSimpArgs false
namespace Go.Proofs.YthbnmehbhpakaaaGreatDoor

theorem step_cons : stepB.data.toList = 47 :: [109, 111, 100, 117, 108, 101, 115, 47] := by decide +kernel
theorem index_none {l : List UInt8} (h : ∀ b ∈ l, (b != 47) = true) : Lib.index l stepB.data.toList = -1 := by
  rw [step_cons]
  induction l with
  | nil => rfl
  | cons b l ih =>
    have hb : (47 == b) = false := by have := h b (by simp); simp at this ⊢; exact fun e => this e.symm
    unfold Lib.index
    rw [List.isPrefixOf, hb, Bool.false_and, ih fun c hc => h c (by simp [hc])]
    rfl
end Go.Proofs.YthbnmehbhpakaaaGreatDoor
set_option autoImplicit false
set_option relaxedAutoImplicit false
set_option linter.unusedVariables false
set_option linter.unusedSimpArgs false
namespace Go.Proofs.YthbnmehbhpakaaaGreatDoor
open Go.Rows Go.RowKit Go.Shelf Go.Sort

/-- internal/bytealg.MaxLen holds an int -/
def MaxL (w : World) : Prop := ∃ m, w.cell? ⟨0, 0, none⟩ = some (.int .i64 m)
theorem MaxL.below {w w' : World} (h : MaxL w) (hb : Below w.heap.size w w') : MaxL w' := by
  obtain ⟨m, hm⟩ := h
  exact ⟨m, below_cell hb hm (cell_lt hm)⟩
theorem splitB_size (sep : ByteArray) : ∀ (k : Nat) (s : ByteArray), ∀ x ∈ Lib.splitB sep 0 k s, x.size ≤ s.size := by
  intro k
  induction k with
  | zero => intro s x hx; simp [Lib.splitB] at hx; subst hx; exact Nat.le_refl _
  | succ k ih =>
    intro s x hx
    unfold Lib.splitB at hx
    split at hx
    · simp at hx; subst hx; exact Nat.le_refl _
    · rcases List.mem_cons.1 hx with rfl | hx
      · rw [ByteArray.size_extract]; omega
      · have := ih _ x hx
        rw [ByteArray.size_extract] at this
        omega
theorem elems_strs {w : World} {S : Nat → Prop} : ∀ {l : List ByteArray}, (∀ x ∈ l, x.size ≤ maxLen) → Elems rStr w S l (l.map Value.string) := by
  intro l
  induction l with
  | nil => intro _; rfl
  | cons x l ih => intro h; exact ⟨[.string x], _, rfl, ⟨rfl, h x (by simp)⟩, ih fun y hy => h y (by simp [hy])⟩
theorem slash_true {s : ByteArray} (h : s = ⟨#[47]⟩) : (s.toList == [47]) = true := by
  rw [h, Go.ByteArray.toList_eq]; rfl
theorem slash_false {s : ByteArray} (h : s ≠ ⟨#[47]⟩) : (s.toList == [47]) = false := by
  have : s.toList ≠ [47] := fun e => h (ByteArray.ext (Array.ext' (by rw [Go.ByteArray.toList_eq] at e; exact e)))
  simpa using this
end Go.Proofs.YthbnmehbhpakaaaGreatDoor
set_option autoImplicit false
set_option relaxedAutoImplicit false
set_option linter.unusedVariables false
set_option linter.unusedSimpArgs false
namespace Go.Proofs.YthbnmehbhpakaaaGreatDoor
open Go.Rows Go.RowKit Go.Shelf

/-- a text's pieces between slashes; ahead of the first: what is read already -/
def cutS : List UInt8 → List UInt8 → List (List UInt8)
  | acc, [] => [acc]
  | acc, c :: t => if c = 47 then acc :: cutS [] t else cutS (acc ++ [c]) t
theorem cutS_none : ∀ (l acc : List UInt8), (∀ b ∈ l, b ≠ 47) → cutS acc l = [acc ++ l]
  | [], acc, _ => by rw [cutS, List.append_nil]
  | c :: t, acc, h => by
    rw [cutS, if_neg (h c (by simp)), cutS_none t _ (fun b hb => h b (by simp [hb]))]
    simp
theorem cutS_at : ∀ (l acc r : List UInt8), (∀ b ∈ l, b ≠ 47) → cutS acc (l ++ 47 :: r) = (acc ++ l) :: cutS [] r
  | [], acc, r, _ => by rw [List.nil_append, cutS, if_pos rfl, List.append_nil]
  | c :: t, acc, r, h => by
    rw [List.cons_append, cutS, if_neg (h c (by simp)), cutS_at t _ r (fun b hb => h b (by simp [hb]))]
    simp
theorem cut47 : ∀ l : List UInt8, (∀ b ∈ l, b ≠ 47) ∨ ∃ a r, l = a ++ 47 :: r ∧ ∀ b ∈ a, b ≠ 47
  | [] => .inl fun b hb => by cases hb
  | c :: t => by
    by_cases h : c = 47
    · subst h; exact .inr ⟨[], t, rfl, fun b hb => by cases hb⟩
    · rcases cut47 t with h1 | ⟨a, r, h1, h2⟩
      · refine .inl fun b hb => ?_
        rcases List.mem_cons.1 hb with e | e
        · rw [e]; exact h
        · exact h1 b e
      · refine .inr ⟨c :: a, r, by rw [h1]; rfl, fun b hb => ?_⟩
        rcases List.mem_cons.1 hb with e | e
        · rw [e]; exact h
        · exact h2 b e
theorem index47_none : ∀ l : List UInt8, (∀ b ∈ l, b ≠ 47) → Lib.index l [47] = -1
  | [], _ => rfl
  | c :: t, h => by
    have hb : (47 == c) = false := by have := h c (by simp); simpa using fun e => this e.symm
    unfold Lib.index
    rw [List.isPrefixOf, hb, Bool.false_and, index47_none t fun b hb => h b (by simp [hb])]
    rfl
theorem index47_at : ∀ l r : List UInt8, (∀ b ∈ l, b ≠ 47) → Lib.index (l ++ 47 :: r) [47] = (l.length : Int)
  | [], r, _ => by
    rw [List.nil_append]
    unfold Lib.index
    rw [show [47].isPrefixOf (47 :: r) = true from by simp [List.isPrefixOf]]
    rfl
  | c :: t, r, h => by
    have hb : (47 == c) = false := by have := h c (by simp); simpa using fun e => this e.symm
    rw [List.cons_append]
    unfold Lib.index
    rw [List.isPrefixOf, hb, Bool.false_and, index47_at t r fun b hb => h b (by simp [hb])]
    have hne : ((t.length : Int) == -1) = false := by simp
    rw [hne]
    simp
def slashB : ByteArray := ⟨#[47]⟩
def mkS (l : List UInt8) : ByteArray := ⟨l.toArray⟩
theorem split47 : ∀ (n : Nat) (s : ByteArray), s.size ≤ n → Lib.splitB slashB 0 (Lib.countB s slashB) s = (cutS [] s.data.toList).map mkS := by
  intro n
  induction n with
  | zero =>
    intro s hs
    have e : s.data.toList = [] := List.eq_nil_of_length_eq_zero (by rw [← size_data]; omega)
    have hi : Lib.indexB s slashB = -1 := index47_none _ (by rw [e]; intro b hb; cases hb)
    rw [Lib.countB_miss s slashB hi, Lib.splitB_zero, cutS_none _ _ (by rw [e]; intro b hb; cases hb)]
    exact congrArg (fun x => [x]) (ByteArray.ext (Array.ext' (by simp [mkS])))
  | succ n ih =>
    intro s hs
    rcases cut47 s.data.toList with h | ⟨a, r, h1, h2⟩
    · have hi : Lib.indexB s slashB = -1 := index47_none _ h
      rw [Lib.countB_miss s slashB hi, Lib.splitB_zero, cutS_none _ _ h]
      exact congrArg (fun x => [x]) (ByteArray.ext (Array.ext' (by simp [mkS])))
    · have hi : Lib.indexB s slashB = (a.length : Int) := by
        show Lib.index s.data.toList [47] = _
        rw [h1]; exact index47_at a r h2
      have hsz : slashB.size = 1 := rfl
      have hss : s.size = a.length + (r.length + 1) := by rw [size_data, h1, List.length_append, List.length_cons]
      rw [Lib.countB_hit s slashB a.length (by rw [hsz]; omega) hi, Nat.add_comm 1, Lib.splitB_hit slashB 0 _ s _ hi]
      have e1 : s.extract 0 (a.length + 0) = mkS a := by
        apply ByteArray.ext
        apply Array.ext'
        rw [Lib.extract_from_zero, h1, Nat.add_zero, List.take_left]
        simp [mkS]
      have e2 : (s.extract (a.length + slashB.size) s.size).data.toList = r := by
        rw [Lib.extract_to_end, h1, hsz, show a ++ 47 :: r = (a ++ [47]) ++ r by simp, show a.length + 1 = (a ++ [47]).length by simp, List.drop_left]
      have e3 := ih (s.extract (a.length + slashB.size) s.size) (by rw [ByteArray.size_extract, hsz]; omega)
      rw [e1, e3, e2, h1, cutS_at a [] r h2]
      rfl
/-- is a text a path other than the root's -/
def diskPathB (s : ByteArray) : Bool := decide (s.size ≤ 4096) && match s.data.toList with
  | [] => false
  | c :: r => decide (c = 47) && (cutS [] r).all fun l => pieceB (mkS l)

set_option maxHeartbeats 1600000 in
set_option maxRecDepth 100000 in
theorem diskBelow_any (s : ByteArray) (hs : s.size ≤ 67108864) (w : World) (hm : MaxL w) :
    Calls Tryz.prog 58 #[.string s] w fun e w' => e = .returned (.bool (diskPathB s)) ∧ Below w.heap.size w w' := by
  by_cases h1 : 4096 < s.size
  · have Hn : Hid (diskPathB s = false) := by unfold Hid diskPathB; rw [decide_eq_false (by omega)]; rfl
    have h1I : (4096 : Int) < s.size := by omega
    clear h1 hm
    go_enter Tryz.func58, Tryz.ntmps58
    go_wp2_with fail
    go_ret
    exact ⟨ret_bool Hn.out.symm, Below.refl _ _⟩
  have h1I : ¬ (4096 : Int) < s.size := by omega
  have Hpre : Hid (∀ W, Calls Tryz.prog 118 #[.string s, .string ⟨#[47]⟩] W fun e w' => e = .returned (.bool ([47].isPrefixOf s.data.toList)) ∧ w' = W) := fun W => Tryz.strings_HasPrefix s ⟨#[47]⟩ W
  cases hp : [47].isPrefixOf s.data.toList with
  | false =>
    have Hn : Hid (diskPathB s = false) := by
      unfold Hid diskPathB
      cases hd : s.data.toList with
      | nil => simp
      | cons c r =>
        rw [hd, List.isPrefixOf] at hp
        have : decide (c = 47) = false := by
          simp at hp
          exact decide_eq_false fun e => hp e.symm
        simp only [this]; simp
    rw [hp] at Hpre
    clear h1 hm hp
    go_enter Tryz.func58, Tryz.ntmps58
    go_wp2_with fail
    refine (Hpre.out _).mono ?_
    rintro e w1 ⟨rfl, rfl⟩
    go_wp2_with fail
    go_ret
    exact ⟨ret_bool Hn.out.symm, Below.refl _ _⟩
  | true =>
    obtain ⟨r, hr⟩ : ∃ r, s.data.toList = 47 :: r := by
      obtain ⟨t, ht⟩ := List.isPrefixOf_iff_prefix.1 hp
      exact ⟨t, ht.symm⟩
    have he : (s.extract 1 s.size).data.toList = r := by rw [Lib.extract_to_end, hr]; rfl
    have hs1 : 1 ≤ s.size := by rw [size_data, hr]; simp
    have hsp := split47 _ (s.extract 1 s.size) (Nat.le_refl _)
    rw [he] at hsp
    have hln := Lib.splitB_all slashB (by decide +kernel) 0 _ (s.extract 1 s.size) rfl
    have hsl := splitB_size slashB (Lib.countB (s.extract 1 s.size) slashB) (s.extract 1 s.size)
    have hcl := Lib.countB_le slashB (by decide +kernel) _ (s.extract 1 s.size) (Nat.le_refl _)
    have hrs : (s.extract 1 s.size).size ≤ s.size := by rw [ByteArray.size_extract]; omega
    have Hq : Hid (diskPathB s = ((cutS [] r).map mkS).all pieceB) := by
      unfold Hid diskPathB
      rw [hr, decide_eq_true (p := s.size ≤ 4096) (by omega), List.all_map]
      rfl
    obtain ⟨m, hm⟩ := hm
    have Hsp : Hid (∀ W, W.cell? ⟨0, 0, none⟩ = some (.int .i64 m) → Calls Tryz.prog 119 #[.string (s.extract 1 s.size), .string ⟨#[47]⟩] W fun e w' => e = .returned (.slice (some ⟨W.heap.size, 0, none⟩) (Lib.countB (s.extract 1 s.size) slashB + 1) (Lib.countB (s.extract 1 s.size) slashB + 1)) ∧ w' = W.alloc (.cells ((Lib.splitB slashB 0 (Lib.countB (s.extract 1 s.size) slashB) (s.extract 1 s.size)).map Value.string).toArray 9)) :=
      fun W hW => Tryz.strings_Split (s.extract 1 s.size) slashB m W (by omega) hW (by decide +kernel)
    rw [hsp] at hln hsl Hsp
    rw [hp] at Hpre
    have Hm := Lib.hid hm
    have Hln := Lib.hid hln
    have Hsl := Lib.hid hsl
    have hs1I : (1 : Int) ≤ (s.size : Int) := by omega
    clear hp hr he hsp hln hsl hm h1
    generalize hcc : Lib.countB (s.extract 1 s.size) slashB = cc at *
    generalize (cutS [] r).map mkS = pp at *
    clear hcc
    go_enter Tryz.func58, Tryz.ntmps58
    go_wp2_with fail
    refine (Hpre.out _).mono ?_
    rintro e w1 ⟨rfl, rfl⟩
    go_wp2_with fail
    refine (Hsp.out _ Hm.out).mono ?_
    rintro e w2 ⟨rfl, hw2⟩
    have HV : Hid (SlV rStr w2 (fun b => b < w2.heap.size) pp (.slice (some ⟨w1.heap.size, 0, none⟩) (cc + 1) (cc + 1))) := by
      unfold Hid
      rw [hw2]
      exact SlV.of_block (heap_new _ _) (by rw [List.toList_toArray]; exact elems_strs fun x hx => by have := Hsl.out x hx; unfold maxLen; omega) (by rw [World.size_alloc]; omega) Hln.out.symm (by rw [Hln.out]; exact Nat.le_refl _) (by unfold maxLen; omega)
    have HB : Hid (Below w1.heap.size w1 w2) := by unfold Hid; rw [hw2]; exact bal (Below.refl _ _) _
    clear hw2 Hsp
    obtain ⟨g, hg⟩ : ∃ g, g = w1.heap.size := ⟨_, rfl⟩
    obtain ⟨N, hN⟩ : ∃ N, N = cc + 1 := ⟨_, rfl⟩
    rw [← hg, ← hN] at HV ⊢
    rw [← hN] at Hln
    clear hg Hpre
    have hN2 : N ≤ 67108870 := by omega
    clear hN
    have Hle : Hid (∀ x ∈ pp, x.size ≤ maxLen) := fun x hx => by have := Hsl.out x hx; unfold maxLen; omega
    have HP : Hid (∀ x, x ∈ pp → ∀ W, Calls Tryz.prog 120 #[.string x] W fun e w' => e = .returned (.bool (pieceB x)) ∧ Below W.heap.size W w') := fun x hx W => diskPart_any x (Hle.out x hx) W
    go_wp2_with fail
    clear h1I hs1I
    go_loopw [17] (fun i wr => ∃ k : Nat, k ≤ N ∧ i = .int .i64 k ∧ Hid (Below w2.heap.size w2 wr) ∧ Hid (pp.all pieceB = (pp.drop k).all pieceB)) (fun i _ => N - (intOf i).toNat)
    case atStart => exact ⟨0, Nat.zero_le _, rfl, Below.refl _ _, rfl⟩
    case round =>
      obtain ⟨k, hk, rfl, HBw, hrl⟩ := hrel
      by_cases hlt : k < N
      · have hkI : (k : Int) < (N : Int) := by omega
        have hkp : k < pp.length := by rw [Hln.out]; exact hlt
        have hx := List.getElem?_eq_getElem hkp
        have hxm : pp[k] ∈ pp := List.getElem_mem hkp
        have hst : (pp.drop k).all pieceB = (pieceB pp[k] && (pp.drop (k + 1)).all pieceB) := by rw [List.drop_eq_getElem_cons hkp, List.all_cons]
        generalize pp[k] = x at *
        have HPx := Lib.hid (HP.out x hxm)
        obtain ⟨b, o, cs, hA, _, _, hcs, hcell⟩ := (HV.out.belowSize HBw.out).elem hx
        simp only [Option.some.injEq, Addr.mk.injEq, and_true] at hA
        obtain ⟨rfl, rfl⟩ := hA
        have c0 := hcell 0 _ (by rw [hcs.1]; rfl)
        rw [show 0 + k * rStr.size + 0 = k from by show 0 + k * 1 + 0 = k; omega] at c0
        have Hst := Lib.hid hst
        clear hcell hcs hx hxm hkp hst
        go_wp2_with fail
        refine (HPx.out _).mono ?_
        rintro e w3 ⟨rfl, hb3⟩
        have HB3 := Lib.hid (bot HBw.out hb3)
        cases hpc : pieceB x with
        | true =>
          have hok : Hid (pp.all pieceB = (pp.drop (k + 1)).all pieceB) := by
            unfold Hid; rw [hrl.out, Hst.out, hpc]; rfl
          clear hb3 c0 hrl Hst hpc HBw HPx
          go_wp2_with fail
          go_roundw
          case rel => exact ⟨k + 1, by omega, by go_num, HB3, hok⟩
          case measure => simp [intOf]; omega
        | false =>
          have hbad : Hid (diskPathB s = false) := by
            unfold Hid; rw [Hq.out, hrl.out, Hst.out, hpc]; rfl
          clear hb3 c0 hrl Hst hpc HBw HPx
          go_wp2_with fail
          go_ret
          exact ⟨ret_bool hbad.out.symm, bot HB.out HB3.out⟩
      · have hkI : ¬ (k : Int) < (N : Int) := by omega
        have hok : Hid (diskPathB s = true) := by
          unfold Hid; rw [Hq.out, hrl.out, List.drop_eq_nil_of_le (by rw [Hln.out]; omega)]; rfl
        clear hrl
        go_wp2_with fail
        go_ret
        exact ⟨ret_bool hok.out.symm, bot HB.out HBw.out⟩
end Go.Proofs.YthbnmehbhpakaaaGreatDoor
set_option autoImplicit false
set_option relaxedAutoImplicit false
set_option linter.unusedVariables false
set_option linter.unusedSimpArgs false
namespace Go.Proofs.YthbnmehbhpakaaaGreatDoor
open Go.Rows Go.RowKit Go.Shelf

end Go.Proofs.YthbnmehbhpakaaaGreatDoor
set_option autoImplicit false
set_option relaxedAutoImplicit false
set_option linter.unusedVariables false
set_option linter.unusedSimpArgs false
namespace Go.Proofs.YthbnmehbhpakaaaGreatDoor
open Go.Rows Go.RowKit Go.Shelf

/-- where a path first stands -/
def findF : List File → ByteArray → Option Nat
  | [], _ => none
  | f :: t, p => if f.path = p then some 0 else (findF t p).map (· + 1)
theorem ret_i {a b : Int} (h : a = b) : Ending.returned (.int .i64 a) = .returned (.int .i64 b) := by rw [h]

/-- what stands at a path: 0 nothing, 1 a file, 2 a directory -/
def kindF (l : List File) (p : ByteArray) : Int := if p = slashB then 2 else match (findF l p).bind (l[·]?) with
  | none => 0
  | some f => if f.dir = true then 2 else 1
theorem findF_some : ∀ {l : List File} {p : ByteArray} {k : Nat}, findF l p = some k → ∃ x, l[k]? = some x ∧ x.path = p
  | [], p, k, h => by rw [findF] at h; cases h
  | f :: t, p, k, h => by
    rw [findF] at h
    by_cases e : f.path = p
    · rw [if_pos e] at h
      cases h
      exact ⟨f, rfl, e⟩
    · rw [if_neg e] at h
      cases hq : findF t p with
      | none => rw [hq] at h; cases h
      | some q =>
        rw [hq] at h
        simp only [Option.map_some, Option.some.injEq] at h
        subst h
        obtain ⟨x, h1, h2⟩ := findF_some hq
        exact ⟨x, h1, h2⟩

end Go.Proofs.YthbnmehbhpakaaaGreatDoor
set_option autoImplicit false
set_option relaxedAutoImplicit false
set_option linter.unusedVariables false
set_option linter.unusedSimpArgs false
namespace Go.Proofs.YthbnmehbhpakaaaGreatDoor
open Go.Rows Go.RowKit Go.Shelf Go.Maps

/-- how a thing reads -/
def thingElem : Value → Option (DataW Unit × List MemPlace)
  | .agg cs => match cs.toList with
    | [.bool d, .string s] => some (.agg [.lit (.bool d), .lit (.string s.data.toList)], [])
    | _ => none
  | _ => none
def thingD (d : Bool) (s : ByteArray) : DataW Unit := .agg [.lit (.bool d), .lit (.string s.data.toList)]
theorem thingElem_mk (d : Bool) (s : ByteArray) : thingElem (.agg #[.bool d, .string s]) = some (thingD d s, []) := rfl
theorem thingElem_inv {v : Value} {d : Bool} {s : ByteArray} {ps : List MemPlace} (h : thingElem v = some (thingD d s, ps)) : v = .agg #[.bool d, .string s] := by
  unfold thingElem at h
  split at h
  · rename_i cs
    split at h
    · rename_i d' s' hc
      simp only [thingD, Option.some.injEq, Prod.mk.injEq, DataW.agg.injEq, List.cons.injEq, DataW.lit.injEq, Lit.bool.injEq, Lit.string.injEq, and_true] at h
      obtain ⟨⟨rfl, h2⟩, _⟩ := h
      rw [← data_inj h2]
      congr 1
      exact Array.ext' hc
    · cases h
  · cases h
theorem thing_zero (w : World) : (zeroValue 111).run Tryz.prog w = .ok (.agg #[.bool false, .string ⟨#[]⟩]) w := by kernel_rfl
/-- what stands at a path in a list: is something; a directory; the text -/
def thingAt (l : List File) (p : ByteArray) : Option File := (findF l p).bind (l[·]?)
def dirAt (l : List File) (p : ByteArray) : Bool := match thingAt l p with | none => false | some f => f.dir
def dataAt (l : List File) (p : ByteArray) : ByteArray := match thingAt l p with | none => ⟨#[]⟩ | some f => f.data
/-- the map holds what the list holds -/
def ThingsM (w : World) (B : Nat) (l : List File) : Prop :=
  ∃ (n : Nat) (D : DataW Unit), w.ownsMap Tryz.prog 9 thingElem B n D ∧ n ≤ l.length ∧ IsMap D ∧ ∀ p : ByteArray, Maps.has D (.string p.data.toList) = (thingAt l p).isSome ∧
    ∀ zd, D.atKey (.string p.data.toList) zd = match thingAt l p with | none => zd | some f => thingD f.dir f.data
theorem ThingsM.made (w : World) : ThingsM (w.alloc (.map #[] 0)) w.heap.size [] :=
  ⟨0, .map [], World.ownsMap_made _ _ _ _, Nat.le_refl _, isMap_empty, fun p => ⟨rfl, fun zd => rfl⟩⟩
theorem ThingsM.kept {w w' : World} {B : Nat} {l : List File} {row : Option Nat} (h : ThingsM w B l) (hg : w.grownBy w' row) (hne : some B ≠ row) : ThingsM w' B l := by
  obtain ⟨n, D, h1, h2⟩ := h
  exact ⟨n, D, h1.kept hg hne, h2⟩
theorem ThingsM.keep {w w' : World} {B : Nat} {l : List File} (h : ThingsM w B l) (hb : Below w.heap.size w w') : ThingsM w' B l :=
  h.kept (row := none) ⟨hb.os, hb.tape, hb.output, hb.size, fun k hk _ => hb.block k hk⟩ (by simp)
/-- a path looked up -/
theorem ThingsM.look {W : World} {B : Nat} {l : List File} {p : ByteArray} (h : ThingsM W B l) (hp : p.size ≤ maxLen) :
    (Instr.lookup 113 (.map (some B)) (.string p) true).run Tryz.prog W = .ok (.tuple #[.agg #[.bool (dirAt l p), .string (dataAt l p)], .bool (thingAt l p).isSome]) W := by
  obtain ⟨n, D, h1, h2, h3, h4⟩ := h
  have hkey := Go.WideMaps.keyOf_string_mk (P := Tryz.prog) Tryz.underlying9 hp
  obtain ⟨v, ps, r1, r2⟩ := h1.look_ok key_law Tryz.underlying113 (thing_zero W) (thingElem_mk false ⟨#[]⟩) hkey
  obtain ⟨q1, q2⟩ := h4 p
  rw [q1] at r1
  rw [q2] at r2
  unfold dirAt dataAt
  cases ht : thingAt l p with
  | none =>
    rw [ht] at r1 r2
    rw [thingElem_inv r2] at r1
    exact r1
  | some f =>
    rw [ht] at r1 r2
    rw [thingElem_inv r2] at r1
    exact r1
theorem findF_app (x : File) (p : ByteArray) : ∀ l : List File, findF (l ++ [x]) p = match findF l p with
    | some k => some k
    | none => if x.path = p then some l.length else none
  | [] => by
    show findF [x] p = _
    rw [findF]
    by_cases h : x.path = p
    · rw [if_pos h]; simp [findF, h]
    · rw [if_neg h]; simp [findF, h]
  | f :: t => by
    rw [List.cons_append, findF, findF]
    by_cases h : f.path = p
    · rw [if_pos h, if_pos h]
    · rw [if_neg h, if_neg h, findF_app x p t]
      cases findF t p with
      | some k => rfl
      | none =>
        by_cases e : x.path = p
        · simp [e]
        · simp [e]
theorem thingAt_app {l : List File} {x : File} {p : ByteArray} (h : findF l x.path = none) : thingAt (l ++ [x]) p = if x.path = p then some x else thingAt l p := by
  unfold thingAt
  rw [findF_app]
  by_cases e : x.path = p
  · subst e
    rw [h, if_pos rfl, if_pos rfl]
    simp
  · rw [if_neg e]
    cases hf : findF l p with
    | none => simp [e]
    | some k =>
      obtain ⟨y, hy, _⟩ := findF_some hf
      have hk := (List.getElem?_eq_some_iff.1 hy).1
      simp only [Option.bind_some]
      rw [List.getElem?_append_left hk, if_neg e]
/-- a thing written at a path at which nothing stands -/
theorem ThingsM.put {W : World} {B : Nat} {l : List File} {x : File} (h : ThingsM W B l) (hp : x.path.size ≤ maxLen) (hl : l.length ≤ 1000000000) (hno : findF l x.path = none) :
    ∃ w', (Instr.mapUpdate 113 (.map (some B)) (.string x.path) (.agg #[.bool x.dir, .string x.data])).run Tryz.prog W = .ok () w' ∧ ThingsM w' B (l ++ [x]) ∧ W.grownBy w' (some B) := by
  obtain ⟨n, D, h1, h2, h3, h4⟩ := h
  have hkey := Go.WideMaps.keyOf_string_mk (P := Tryz.prog) Tryz.underlying9 hp
  obtain ⟨w', r1, r2, r3⟩ := h1.store key_law Tryz.underlying113 (by unfold maxLen; omega) hkey (thingElem_mk x.dir x.data)
  refine ⟨w', r1, ⟨n + 1, _, r2, by simp; omega, h3.put _ _, fun p => ?_⟩, r3.grown⟩
  rw [thingAt_app hno]
  by_cases e : x.path = p
  · subst e
    rw [if_pos rfl]
    exact ⟨has_put_same h3 (by trivial) _, fun zd => atKey_put_same h3 (by trivial) _ _⟩
  · rw [if_neg e]
    have hne : (Lit.string p.data.toList) ≠ .string x.path.data.toList := fun he => e (data_inj (by simpa using he.symm))
    refine ⟨(has_put_other hne _).trans (h4 p).1, fun zd => ?_⟩
    rw [atKey_put_other hne]
    exact (h4 p).2 zd
end Go.Proofs.YthbnmehbhpakaaaGreatDoor
set_option autoImplicit false
set_option relaxedAutoImplicit false
set_option linter.unusedVariables false
set_option linter.unusedSimpArgs false
namespace Go.Proofs.YthbnmehbhpakaaaGreatDoor
open Go.Rows Go.RowKit Go.Shelf Go.Maps

theorem kindF_root {l : List File} {p : ByteArray} (h : p = slashB) : kindF l p = 2 := by unfold kindF; rw [if_pos h]
theorem kindF_at {l : List File} {p : ByteArray} (h : p ≠ slashB) : kindF l p = match thingAt l p with | none => 0 | some f => if f.dir = true then 2 else 1 := by unfold kindF thingAt; rw [if_neg h]; first | done | (cases (findF l p).bind (fun x => l[x]?) <;> rfl)

set_option maxHeartbeats 1600000 in
set_option maxRecDepth 100000 in
theorem diskKind_any (d B : Nat) (rv zv : Value) (l : List File) (p : ByteArray) (w : World) (hp : p.size ≤ maxLen)
    (hd : w.cell? ⟨d, 0, none⟩ = some (.map (some B))) (hl : ThingsM w B l) :
    Calls Tryz.prog 59 #[.pointer (some ⟨d, 0, none⟩), .string p] w fun e w' => e = .returned (.int .i64 (kindF l p)) ∧ Below w.heap.size w w' := by
  have hlook := hl.look hp
  by_cases hs : p = slashB
  · have hb : (p.toList == [47]) = true := slash_true hs
    have hr := Lib.hid (kindF_root (l := l) hs)
    clear hs hl
    generalize dirAt l p = dd at *
    generalize dataAt l p = da at *
    generalize (thingAt l p).isSome = z at *
    go_enter Tryz.func59, Tryz.ntmps59
    go_wp2_with fail
    go_ret
    exact ⟨ret_i hr.out.symm, bal (Below.refl _ _) _⟩
  have hb : (p.toList == [47]) = false := slash_false hs
  have hr := Lib.hid (kindF_at (l := l) hs)
  clear hs hl
  cases ht : thingAt l p with
  | none =>
    have hr' : Hid (kindF l p = 0) := by unfold Hid; rw [hr.out, ht]
    rw [ht] at hlook
    simp only [Option.isSome_none] at hlook
    clear hr ht
    generalize dirAt l p = dd at *
    generalize dataAt l p = da at *
    go_enter Tryz.func59, Tryz.ntmps59
    go_wp2_with fail
    go_ret
    exact ⟨ret_i hr'.out.symm, bal (Below.refl _ _) _⟩
  | some f =>
    have hdir : dirAt l p = f.dir := by unfold dirAt; rw [ht]
    have hr' : kindF l p = if f.dir = true then 2 else 1 := by rw [hr.out, ht]
    rw [ht, hdir] at hlook
    simp only [Option.isSome_some] at hlook
    clear hr ht hdir
    generalize dataAt l p = da at *
    cases hf : f.dir with
    | true =>
      rw [hf] at hlook hr'
      have HR := Lib.hid hr'
      clear hr' hf
      go_enter Tryz.func59, Tryz.ntmps59
      go_wp2_with fail
      go_ret
      exact ⟨ret_i HR.out.symm, bal (Below.refl _ _) _⟩
    | false =>
      rw [hf] at hlook hr'
      have HR := Lib.hid hr'
      clear hr' hf
      go_enter Tryz.func59, Tryz.ntmps59
      go_wp2_with fail
      go_ret
      exact ⟨ret_i HR.out.symm, bal (Below.refl _ _) _⟩
end Go.Proofs.YthbnmehbhpakaaaGreatDoor
set_option autoImplicit false
set_option relaxedAutoImplicit false
set_option linter.unusedVariables false
set_option linter.unusedSimpArgs false
namespace Go.Proofs.YthbnmehbhpakaaaGreatDoor
open Go.Rows Go.RowKit Go.Shelf

def pathsF (l : List File) : List ByteArray := l.map (·.path)
theorem thingAt_cons (f : File) (t : List File) (p : ByteArray) : thingAt (f :: t) p = if f.path = p then some f else thingAt t p := by
  unfold thingAt
  rw [findF]
  by_cases h : f.path = p
  · rw [if_pos h, if_pos h]; rfl
  · rw [if_neg h, if_neg h]
    cases findF t p with
    | none => rfl
    | some k => simp
end Go.Proofs.YthbnmehbhpakaaaGreatDoor
set_option autoImplicit false
set_option relaxedAutoImplicit false
set_option linter.unusedVariables false
set_option linter.unusedSimpArgs false
namespace Go.Proofs.YthbnmehbhpakaaaGreatDoor
open Go.Rows Go.RowKit Go.Shelf

/-- may a file come behind those ahead of it -/
def okF (pre : List File) (f : File) : Bool := !(thingAt pre f.path).isSome && diskPathB f.path && !(f.dir && !(f.data.toList == []))
def goodL : List File → List File → Bool
  | _, [] => true
  | pre, f :: t => okF pre f && goodL (pre ++ [f]) t
def homesB (l : List File) : Bool := l.all fun f => decide (kindF l (upS f.path) = 2)
def loadB (l : List File) : Bool := goodL [] l && homesB l
theorem goodL_step {l : List File} {k : Nat} {x : File} (hx : l[k]? = some x) : goodL (l.take k) (l.drop k) = (okF (l.take k) x && goodL (l.take (k + 1)) (l.drop (k + 1))) := by
  obtain ⟨hk, e⟩ := List.getElem?_eq_some_iff.1 hx
  rw [List.drop_eq_getElem_cons hk, e, goodL, List.take_add_one, hx]
  rfl
theorem goodL_done {l : List File} {k : Nat} (hk : l.length ≤ k) : goodL (l.take k) (l.drop k) = true := by
  rw [List.drop_eq_nil_of_le hk]; rfl
theorem okF_path {pre : List File} {f : File} (h : diskPathB f.path = false) : okF pre f = false := by
  unfold okF; rw [h]; cases (thingAt pre f.path).isSome <;> rfl
theorem okF_thing {pre : List File} {f : File} (h : (thingAt pre f.path).isSome = true) : okF pre f = false := by
  unfold okF; rw [h]; rfl
theorem okF_file {pre : List File} {f : File} (h : (thingAt pre f.path).isSome = false) (h2 : diskPathB f.path = true) (h3 : f.dir = false) : okF pre f = true := by
  unfold okF; rw [h, h2, h3]; rfl
theorem okF_dir {pre : List File} {f : File} (h : (thingAt pre f.path).isSome = false) (h2 : diskPathB f.path = true) (h3 : f.dir = true) (h4 : (f.data.toList == []) = true) : okF pre f = true := by
  unfold okF; rw [h, h2, h3, h4]; rfl
theorem okF_full {pre : List File} {f : File} (h3 : f.dir = true) (h4 : (f.data.toList == []) = false) : okF pre f = false := by
  unfold okF; rw [h3, h4]; cases (thingAt pre f.path).isSome <;> cases diskPathB f.path <;> rfl
theorem thingAt_none {l : List File} {p : ByteArray} : (thingAt l p).isSome = false ↔ p ∉ pathsF l := by
  induction l with
  | nil => simp [thingAt, findF, pathsF]
  | cons f t ih =>
    rw [thingAt_cons]
    show _ ↔ p ∉ f.path :: pathsF t
    by_cases h : f.path = p
    · rw [if_pos h]
      simp [h]
    · rw [if_neg h, ih]
      simp [List.mem_cons, fun e : p = f.path => h e.symm, Ne.symm h]
theorem findF_thing {l : List File} {p : ByteArray} (h : (thingAt l p).isSome = false) : findF l p = none := by
  cases hf : findF l p with
  | none => rfl
  | some k =>
    obtain ⟨x, hx, _⟩ := findF_some hf
    unfold thingAt at h
    rw [hf] at h
    simp [hx] at h
/-- the parents are directories just if all that a map's keys name have such -/
theorem homes_of {l : List File} (h : ∀ p ∈ pathsF l, kindF l (upS p) = 2) : homesB l = true :=
  List.all_eq_true.2 fun f hf => decide_eq_true (h f.path (List.mem_map.2 ⟨f, hf, rfl⟩))
theorem homes_not {l : List File} {p : ByteArray} (hp : p ∈ pathsF l) (h : kindF l (upS p) ≠ 2) : homesB l = false := by
  obtain ⟨f, hf, rfl⟩ := List.mem_map.1 hp
  refine List.all_eq_false.2 ⟨f, hf, ?_⟩
  simp [h]
theorem up_size (s : ByteArray) : (upS s).size ≤ s.size + 1 := by
  unfold upS
  split
  · show 1 ≤ _; omega
  · rw [ByteArray.size_extract]; omega
end Go.Proofs.YthbnmehbhpakaaaGreatDoor
