/-
  The document's order of texts, byte by byte, walked.
-/
import Derived.Test.YtanipbpphbkmcaaGreatDoorRows
import Derived.Test.YtanipbpphbkmcaaGreatDoorOwn
import Derived.Test.YtanipbpphbkmcaaGreatDoorPlain
import Derived.Test.YtanipbpphbkmcaaGreatDoorQuietB
import Derived.WalkKit
import Derived.WalkSpells
import Derived.WalkLawsBesides
import Derived.IntWalk
import Derived.Lib.Hide
set_option autoImplicit false
set_option relaxedAutoImplicit false
set_option linter.unusedVariables false
set_option linter.unusedSimpArgs false
namespace Go.Proofs.YtanipbpphbkmcaaGreatDoor
open Go.RowKit Go.Sort

def lessB (a b : ByteArray) : Bool := Op.bytesLess a.toList b.toList
theorem drop_at (s : ByteArray) {k : Nat} (h : k < s.size) : s.toList.drop k = s[k] :: s.toList.drop (k + 1) := by
  rw [Go.ByteArray.toList_eq]
  have h' : k < s.data.toList.length := by rw [Array.length_toList]; exact h
  rw [List.drop_eq_getElem_cons h']
  rfl
theorem drop_end (s : ByteArray) {k : Nat} (h : s.size ≤ k) : s.toList.drop k = [] := by
  rw [Go.ByteArray.toList_eq]
  exact List.drop_eq_nil_of_le (by rw [Array.length_toList]; exact h)
theorem bl_cons (x y : UInt8) (a b : List UInt8) : Op.bytesLess (x :: a) (y :: b) = (decide (x < y) || (x == y && Op.bytesLess a b)) := rfl

set_option maxHeartbeats 400000 in
theorem less_any (a b : ByteArray) (ha : a.size ≤ maxLen) (hb : b.size ≤ maxLen) (w : World) :
    Calls Tryz.prog 123 #[.string a, .string b] w fun e w' => e = .returned (.bool (lessB a b)) ∧ Below w.heap.size w w' := by
  unfold maxLen at ha hb
  have Hs : Hid (lessB a b = Op.bytesLess a.toList b.toList) := rfl
  generalize lessB a b = r at *
  go_enter Tryz.func123, Tryz.ntmps123
  go_wp2_with fail
  go_loopw [5] (fun i wr => ∃ k : Nat, k ≤ a.size ∧ k ≤ b.size ∧ i = .int .i64 k ∧ Hid (r = Op.bytesLess (a.toList.drop k) (b.toList.drop k)) ∧ Below w.heap.size w wr) (fun i _ => a.size - (intOf i).toNat)
  case atStart => exact ⟨0, Nat.zero_le _, Nat.zero_le _, rfl, by rw [List.drop_zero, List.drop_zero]; exact Hs, Below.refl _ _⟩
  case round =>
    obtain ⟨k, hka, hkb, rfl, hr, hbel⟩ := hrel
    have hk0 : (0 : Int) ≤ (k : Int) := by omega
    by_cases h1 : k < a.size
    · by_cases h2 : k < b.size
      · have hia : (k : Int) < (a.size : Int) := by omega
        have hib : (k : Int) < (b.size : Int) := by omega
        have Hst : Hid (r = (decide (a[k] < b[k]) || (a[k] == b[k] && Op.bytesLess (a.toList.drop (k + 1)) (b.toList.drop (k + 1))))) := by
          unfold Hid; rw [hr.out, drop_at a h1, drop_at b h2, bl_cons]
        by_cases he : a[k] = b[k]
        · have hne : (((a[k]).toNat : Int) != ((b[k]).toNat : Int)) = false := by rw [he]; simp
          have hn : Hid (r = Op.bytesLess (a.toList.drop (k + 1)) (b.toList.drop (k + 1))) := by
            unfold Hid; rw [Hst.out, he]; simp
          clear he hr
          go_wp2_with fail
          refine wp_region_qb (by kernel_rfl) (by kernel_rfl) ?_
          repeat (go_big_quiet_step (first | fail))
          refine wpQuiet_nil ?_
          intro w1 B1
          go_wp2_with fail
          go_roundw
          case rel => exact ⟨k + 1, by omega, by omega, by go_num, hn, bot hbel B1⟩
          case measure => simp [intOf]; omega
        · have hne' : (a[k]).toNat ≠ (b[k]).toNat := fun h => he (UInt8.toNat_inj.1 h)
          have hne : (((a[k]).toNat : Int) != ((b[k]).toNat : Int)) = true := by simp; omega
          have hn : Hid (r = decide (((a[k]).toNat : Int) < ((b[k]).toNat : Int))) := by
            unfold Hid; rw [Hst.out]
            have : (a[k] == b[k]) = false := by simpa using he
            rw [this, Bool.false_and, Bool.or_false]
            rw [Bool.eq_iff_iff]; simp [UInt8.lt_iff_toNat_lt]
          clear he hne' hr Hst
          go_wp2_with fail
          refine wp_region_qb (by kernel_rfl) (by kernel_rfl) ?_
          repeat (go_big_quiet_step (first | fail))
          refine wpQuiet_nil ?_
          intro w1 B1
          go_wp2_with fail
          refine wp_region_qb (by kernel_rfl) (by kernel_rfl) ?_
          repeat (go_big_quiet_step (first | fail))
          refine wpQuiet_nil ?_
          intro w2 B2
          go_wp2_with fail
          go_ret
          exact ⟨ret_bool (by rw [hn.out]; simp), bot hbel (bot B1 B2)⟩
      · have hn : Hid (r = decide ((a.size : Int) < (b.size : Int))) := by
          unfold Hid; rw [hr.out, drop_end b (by omega)]
          have : ¬ ((a.size : Int) < (b.size : Int)) := by omega
          rw [decide_eq_false this]
          cases a.toList.drop k <;> rfl
        have hib : ¬ (k : Int) < (b.size : Int) := by omega
        have hia : (k : Int) < (a.size : Int) := by omega
        clear hr
        go_wp2_with fail
        go_ret
        exact ⟨ret_bool (by rw [hn.out]; simp), hbel⟩
    · have hn : Hid (r = decide ((a.size : Int) < (b.size : Int))) := by
        unfold Hid; rw [hr.out, drop_end a (by omega)]
        by_cases h2 : k < b.size
        · rw [drop_at b h2, decide_eq_true (show (a.size : Int) < (b.size : Int) by omega)]; rfl
        · rw [drop_end b (by omega), decide_eq_false (show ¬ (a.size : Int) < (b.size : Int) by omega)]; rfl
      have hia : ¬ (k : Int) < (a.size : Int) := by omega
      clear hr
      go_wp2_with fail
      go_ret
      exact ⟨ret_bool (by rw [hn.out]; simp), hbel⟩
end Go.Proofs.YtanipbpphbkmcaaGreatDoor
