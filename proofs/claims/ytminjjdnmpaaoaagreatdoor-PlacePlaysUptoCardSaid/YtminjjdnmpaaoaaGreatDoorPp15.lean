/-
  A path's text: the program's tree.Text (a Builder) and the document's Text (12).
-/
import Derived.Test.YtminjjdnmpaaoaaGreatDoorRows
import Derived.Test.YtminjjdnmpaaoaaGreatDoorPp01
import Derived.Test.YtminjjdnmpaaoaaGreatDoorPp04
import Derived.Test.YtminjjdnmpaaoaaGreatDoorPp08
import Derived.Test.YtminjjdnmpaaoaaGreatDoorPp11
import Derived.Laws.Concat
import Derived.WalkKit
import Derived.WalkSpells
import Derived.WalkLawsBesides
import Derived.IntWalk
import Derived.Lib.Hide
set_option autoImplicit false
set_option relaxedAutoImplicit false
set_option linter.unusedVariables false
set_option linter.unusedSimpArgs false
namespace Go.Proofs.YtminjjdnmpaaoaaGreatDoor
open Go.Rows Go.RowKit Go.Shelf

def stepB : ByteArray := ⟨#[47, 109, 111, 100, 117, 108, 101, 115, 47]⟩
def joined : List ByteArray → List UInt8
  | [] => []
  | s :: t => (stepB.data.toList ++ s.data.toList) ++ joined t
def textB (l : List ByteArray) : ByteArray := if l = [] then ⟨#[47]⟩ else if l.all nameB = true then ⟨(joined l).toArray⟩ else ⟨#[]⟩

theorem joined_append (a b : List ByteArray) : joined (a ++ b) = joined a ++ joined b := by
  induction a with
  | nil => rfl
  | cons s t ih => rw [List.cons_append, joined, ih, joined]; simp [List.append_assoc]
theorem joined_take {l : List ByteArray} {k : Nat} (h : k < l.length) : joined (l.take (k + 1)) = joined (l.take k) ++ stepB.data.toList ++ l[k].data.toList := by
  rw [List.take_succ_eq_append_getElem h, joined_append]
  simp [joined, List.append_assoc]
theorem all_take {α : Type} {p : α → Bool} {l : List α} {k : Nat} (h : k < l.length) (h0 : (l.take k).all p = true) (h1 : p l[k] = true) : (l.take (k + 1)).all p = true := by
  rw [List.take_succ_eq_append_getElem h, List.all_append, h0]
  simp [h1]
theorem all_no {α : Type} {p : α → Bool} {l : List α} {k : Nat} (h : k < l.length) (h1 : p l[k] = false) : l.all p = false := by
  rw [List.all_eq_false]
  exact ⟨l[k], List.getElem_mem h, by simp [h1]⟩
theorem name_len {s : ByteArray} (h : nameB s = true) : s.size ≤ 16 := by
  rcases Nat.lt_or_ge 16 s.size with h' | h'
  · have : nameL s.data.toList = false := name_long (by rw [← size_data]; exact h')
    unfold nameB at h; rw [this] at h; cases h
  · exact h'
theorem joined_len : ∀ {l : List ByteArray}, l.all nameB = true → (joined l).length ≤ 25 * l.length := by
  intro l
  induction l with
  | nil => intro _; exact Nat.le_refl _
  | cons s t ih =>
    intro h
    rw [List.all_cons, Bool.and_eq_true] at h
    have h1 := name_len h.1
    have h2 := ih h.2
    rw [size_data] at h1
    have h3 : stepB.data.toList.length = 9 := by decide
    rw [joined, List.length_append, List.length_append, List.length_cons]
    omega

set_option maxHeartbeats 800000 in
theorem treeText_any (A : Option Addr) (n c : Nat) (l : List ByteArray) (w : World) (S : Nat → Prop) (hS : ∀ b, S b → b < w.heap.size) (hmax : l.length * 32 ≤ 140737488355328)
    (hl : SlV rStr w S l (.slice A n c)) :
    Calls Tryz.prog 19 #[.slice A n c] w fun e w' => e = .returned (.string (textB l)) ∧ Below w.heap.size w w' := by
  have hnx := hl.n_eq
  have Hnx := Lib.hid hnx
  by_cases h0 : l = []
  · have hn0 : n = 0 := by rw [hnx, h0]; rfl
    have e0 : textB l = ⟨#[47]⟩ := if_pos h0
    have E0 := Lib.hid e0
    clear Hnx hnx h0 hl hmax hS e0
    subst hn0
    go_enter Tryz.func19, Tryz.ntmps19
    go_wp2_with fail
    go_ret
    exact ⟨ret_str E0.out.symm, Below.refl _ _⟩
  · have hn0 : n ≠ 0 := by rw [hnx]; exact fun h => h0 (List.eq_nil_of_length_eq_zero h)
    have hyes : l.all nameB = true → textB l = ⟨(joined l).toArray⟩ := fun h => by unfold textB; rw [if_neg h0, if_pos h]
    have hno : l.all nameB = false → textB l = ⟨#[]⟩ := fun h => by unfold textB; rw [if_neg h0, h]; rfl
    have Hyes := Lib.hid hyes; clear hyes
    have Hno := Lib.hid hno; clear hno
    have hn63 : n ≤ 9223372036854775807 := by omega
    have hne : ((n : Int) == 0) = false := by simp [hn0]
    have Hm := Lib.hid hmax; clear hmax
    clear hnx h0
    go_enter Tryz.func19, Tryz.ntmps19
    go_wp2
    go_loopw [11] (fun i wr => ∃ k : Nat, k ≤ n ∧ i = .int .i64 k ∧ Hid (IsB w.heap.size w.heap.size (Lib.byteCells (joined (l.take k))) wr) ∧ Below w.heap.size w wr ∧ Hid ((l.take k).all nameB = true)) (fun i _ => n - (intOf i).toNat)
    case atStart => exact ⟨0, Nat.zero_le _, rfl, Lib.fresh_isBuilder _ _ _, (Below.refl _ _).alloc (Nat.le_refl _) _, rfl⟩
    case round =>
      obtain ⟨k, hk, rfl, hB, hbel, hall⟩ := hrel
      have hbw := hbel.size
      have Hbw := Lib.hid hbw
      by_cases hlt : k < n
      · have hkx : k < l.length := by have := Hnx.out; omega
        have hlw := hl.below hbel hS
        obtain ⟨b, o, cs, rfl, hSb, hb1, hsp, hcell⟩ := hlw.elem (List.getElem?_eq_getElem hkx)
        obtain ⟨rfl, hsz⟩ := hsp
        have hc0 := hcell 0 _ rfl
        simp only [rStr, Nat.add_zero, Nat.mul_one] at hc0
        have hkn : (k : Int) < (n : Int) := by omega
        have htk := joined_take hkx
        have Htk := Lib.hid htk; clear htk
        have Hall := Lib.hid (fun h => all_take (p := nameB) hkx hall.out h)
        have Hnot := Lib.hid (fun h => Hno.out (all_no (p := nameB) hkx h))
        have hjl := joined_len hall.out
        have hjl' : (joined (l.take k)).length ≤ 25 * k := by rw [List.length_take] at hjl; omega
        have Hjl := Lib.hid hjl'; clear hjl hjl'
        have hnl : nameB l[k] = true → l[k].size ≤ 16 := fun hq => name_len hq
        have Hnl := Lib.hid hnl; clear hnl
        generalize hs : l[k] = s at *
        clear hcell hlw
        go_wp2_with fail
        refine (scanName_any s hsz _).mono ?_
        rintro e w1 ⟨rfl, hb1⟩
        have hbel1 := hbel.trans (hb1.mono hbw)
        have hbw1 := hbel1.size
        by_cases hq : nameB s = true
        · have hk1 := Hall.out hq
          have Hk1 := Lib.hid hk1; clear hk1
          have hs16 := Hnl.out hq
          have hB1 := hB.out.keep hb1
          have HB1 := Lib.hid hB1; clear hB1 hB
          have Hbel1 := Lib.hid hbel1; clear hbel1 hbel hb1
          have hlen1 : (Lib.byteCells (joined (l.take k))).length + stepB.size ≤ 140737488355328 := by
            have h9 : stepB.size = 9 := by decide
            have := Hjl.out; have := Hm.out; have := Hnx.out
            rw [Lib.byteCells_length, h9]; omega
          have Hlen1 := Lib.hid hlen1; clear hlen1
          clear Hall Hnot Hnl
          go_wp2_with fail
          refine (writeString_any _ _ _ stepB _ HB1.out Hlen1.out hbw1).mono ?_
          rintro e w2 ⟨rfl, hB2, hb2⟩
          have hB2' : IsB w.heap.size w.heap.size (Lib.byteCells (joined (l.take k) ++ stepB.data.toList)) w2 := .inr (by rw [Lib.byteCells_append]; exact hB2)
          have HB2 := Lib.hid hB2'; clear hB2 hB2' HB1
          have hbel2 := Hbel1.out.trans hb2
          have hbw2 := hbel2.size
          have Hbel2 := Lib.hid hbel2; clear hbel2 hb2
          have hlen2 : (Lib.byteCells (joined (l.take k) ++ stepB.data.toList)).length + s.size ≤ 140737488355328 := by
            have h9 : stepB.data.toList.length = 9 := by decide
            have := Hjl.out; have := Hm.out; have := Hnx.out
            rw [Lib.byteCells_length, List.length_append, h9]; omega
          have Hlen2 := Lib.hid hlen2; clear hlen2
          go_wp2_with fail
          refine (writeString_any _ _ _ s _ HB2.out Hlen2.out hbw2).mono ?_
          rintro e w3 ⟨rfl, hB3, hb3⟩
          have hB3' : IsB w.heap.size w.heap.size (Lib.byteCells (joined (l.take (k + 1)))) w3 := .inr (by rw [Htk.out, Lib.byteCells_append]; exact hB3)
          have HB3 := Lib.hid hB3'; clear hB3 hB3' HB2
          have Hbel3 := Lib.hid (Hbel2.out.trans hb3); clear hb3
          go_wp2_with fail
          go_round
          case rel => exact ⟨k + 1, by omega, by go_num, HB3, Hbel3.out, Hk1⟩
          case measure => simp [intOf]; omega
        · have hq' : nameB s = false := by simpa using hq
          have He := Lib.hid (Hnot.out hq')
          clear Hall Hnot Hnl hq
          go_wp2_with fail
          go_ret
          exact ⟨ret_str He.out.symm, hbel1⟩
      · have hkn : k = n := by omega
        have htake : l.take k = l := by have := Hnx.out; rw [hkn, this]; exact List.take_length
        have he := Hyes.out (by rw [← htake]; exact hall.out)
        have He := Lib.hid he; clear he
        have hB' : IsB w.heap.size w.heap.size (Lib.byteCells (joined l)) wr := by rw [← htake]; exact hB.out
        have HB := Lib.hid hB'; clear hB' hB htake hall
        have Hbel := Lib.hid hbel; clear hbel
        subst hkn
        go_wp2_with fail
        refine (Tryz.Builder_String_any _ _ _ _ HB.out hbw).mono ?_
        rintro e w1 ⟨rfl, hb1⟩
        go_wp2_with fail
        go_ret
        exact ⟨ret_str He.out.symm, Hbel.out.trans hb1⟩

theorem add_size (a b : ByteArray) : (a ++ b).size = a.size + b.size := ByteArray.size_append
theorem joined_take_b {l : List ByteArray} {k : Nat} (h : k < l.length) : (⟨(joined (l.take (k + 1))).toArray⟩ : ByteArray) = (⟨(joined (l.take k)).toArray⟩ : ByteArray) ++ stepB ++ l[k] := by
  rw [joined_take h]
  apply ByteArray.ext
  simp [ByteArray.data_append]

set_option maxHeartbeats 800000 in
theorem refText_any (A : Option Addr) (n c : Nat) (l : List ByteArray) (w : World) (S : Nat → Prop) (hmax : l.length * 32 ≤ 140737488355328)
    (hl : SlV rStr w S l (.slice A n c)) :
    Calls Tryz.prog 61 #[.slice A n c] w fun e w' => e = .returned (.string (textB l)) ∧ w = w' := by
  have hnx := hl.n_eq
  have Hnx := Lib.hid hnx
  by_cases h0 : l = []
  · have hn0 : n = 0 := by rw [hnx, h0]; rfl
    have e0 : textB l = ⟨#[47]⟩ := if_pos h0
    have E0 := Lib.hid e0
    clear Hnx hnx h0 hl hmax e0
    subst hn0
    go_enter Tryz.func61, Tryz.ntmps61
    go_wp2_with fail
    go_ret
    exact ⟨ret_str E0.out.symm, rfl⟩
  · have hn0 : n ≠ 0 := by rw [hnx]; exact fun h => h0 (List.eq_nil_of_length_eq_zero h)
    have hyes : l.all nameB = true → textB l = ⟨(joined l).toArray⟩ := fun h => by unfold textB; rw [if_neg h0, if_pos h]
    have hno : l.all nameB = false → textB l = ⟨#[]⟩ := fun h => by unfold textB; rw [if_neg h0, h]; rfl
    have Hyes := Lib.hid hyes; clear hyes
    have Hno := Lib.hid hno; clear hno
    have hn63 : n ≤ 9223372036854775807 := by omega
    have hne : ((n : Int) == 0) = false := by simp [hn0]
    have Hm := Lib.hid hmax; clear hmax
    clear hnx h0
    go_enter Tryz.func61, Tryz.ntmps61
    go_wp2
    go_loop [3, 4] (fun o i => ∃ (k : Nat) (acc : ByteArray), k ≤ n ∧ o = .string acc ∧ i = .int .i64 k ∧ Hid (acc = ⟨(joined (l.take k)).toArray⟩) ∧ Hid ((l.take k).all nameB = true)) (fun _ i => n - (intOf i).toNat)
    case atStart => exact ⟨0, ⟨#[]⟩, Nat.zero_le _, rfl, rfl, rfl, rfl⟩
    case round =>
      obtain ⟨k, acc, hk, rfl, rfl, hacc, hall⟩ := hrel
      by_cases hlt : k < n
      · have hkx : k < l.length := by have := Hnx.out; omega
        obtain ⟨b, o, cs, rfl, hSb, hb1, hsp, hcell⟩ := hl.elem (List.getElem?_eq_getElem hkx)
        obtain ⟨rfl, hsz⟩ := hsp
        have hc0 := hcell 0 _ rfl
        simp only [rStr, Nat.add_zero, Nat.mul_one] at hc0
        have hkn : (k : Int) < (n : Int) := by omega
        have htk := joined_take_b hkx
        have Htk := Lib.hid htk; clear htk
        have Hall := Lib.hid (fun h => all_take (p := nameB) hkx hall.out h)
        have Hnot := Lib.hid (fun h => Hno.out (all_no (p := nameB) hkx h))
        have hjl := joined_len hall.out
        have hjl' : acc.size ≤ 25 * k := by rw [List.length_take] at hjl; rw [hacc.out]; simp [ByteArray.size]; omega
        have Hjl := Lib.hid hjl'; clear hjl hjl'
        have hnl : nameB l[k] = true → l[k].size ≤ 16 := fun hq => name_len hq
        have Hnl := Lib.hid hnl; clear hnl
        generalize hs : l[k] = s at *
        clear hcell
        go_wp2_with fail
        refine (refName_any s hsz _).mono ?_
        rintro e w1 ⟨rfl, rfl⟩
        by_cases hq : nameB s = true
        · have hk1 := Hall.out hq
          have Hk1 := Lib.hid hk1; clear hk1
          have hs16 := Hnl.out hq
          have h9 : stepB.size = 9 := by decide
          have hn1 : ¬ (acc.size + stepB.size > 9223372036854775807) := by
            have := Hjl.out; have := Hm.out; have := Hnx.out
            omega
          have hn2 : ¬ ((acc ++ stepB).size + s.size > 9223372036854775807) := by
            have := Hjl.out; have := Hm.out; have := Hnx.out
            rw [add_size]; omega
          have A1 : ∀ W : World, (Op.stringOp .add acc ⟨#[47, 109, 111, 100, 117, 108, 101, 115, 47]⟩).run Tryz.prog W = .ok (.string (acc ++ stepB)) W := fun W => run_string_add_sum W acc stepB (by omega)
          have A2 : ∀ W : World, (Op.stringOp .add (acc ++ stepB) s).run Tryz.prog W = .ok (.string (acc ++ stepB ++ s)) W := fun W => run_string_add_sum W _ _ (by omega)
          have hnew : Hid (acc ++ stepB ++ s = ⟨(joined (l.take (k + 1))).toArray⟩) := by
            unfold Hid; rw [Htk.out, hacc.out]
          clear Hall Hnot Hnl h9 hn1 hn2
          go_wp2_with fail
          go_round
          case rel => exact ⟨k + 1, _, by omega, rfl, by go_num, hnew, Hk1⟩
          case measure => simp [intOf]; omega
        · have hq' : nameB s = false := by simpa using hq
          have He := Lib.hid (Hnot.out hq')
          clear Hall Hnot Hnl hq
          go_wp2_with fail
          go_ret
          exact ⟨ret_str He.out.symm, rfl⟩
      · have hkn : k = n := by omega
        have htake : l.take k = l := by have := Hnx.out; rw [hkn, this]; exact List.take_length
        have he := Hyes.out (by rw [← htake]; exact hall.out)
        have He : Hid (textB l = acc) := by unfold Hid; rw [he, hacc.out, htake]
        clear he htake hall
        subst hkn
        go_wp2_with fail
        go_ret
        exact ⟨ret_str He.out.symm, rfl⟩
end Go.Proofs.YtminjjdnmpaaoaaGreatDoor
