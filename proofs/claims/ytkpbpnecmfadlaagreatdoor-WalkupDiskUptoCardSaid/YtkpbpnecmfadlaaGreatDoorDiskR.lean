/-
  A path without its last part: the program's parent and the document's Parent, walked.
-/
import Derived.Test.YtkpbpnecmfadlaaGreatDoorDiskQ
import Derived.Test.YtkpbpnecmfadlaaGreatDoorShelf
import Derived.Lib.LastIndexByte
set_option autoImplicit false
set_option relaxedAutoImplicit false
set_option linter.unusedVariables false
set_option linter.unusedSimpArgs false
namespace Go.Proofs.YtkpbpnecmfadlaaGreatDoor
open Go.Rows Go.RowKit Go.Shelf

/-- a path without its last part -/
def upS (s : ByteArray) : ByteArray := if Lib.lastIndexByte s 47 ≤ 0 then ⟨#[47]⟩ else s.extract 0 (Lib.lastIndexByte s 47).toNat
theorem data_at {s : ByteArray} {j : Nat} (h : j < s.size) : s.data[j]! = s[j] := by
  rw [getElem!_pos s.data j h]; rfl
theorem up_spec (s : ByteArray) : (Lib.lastIndexByte s 47 ≤ 0 ∧ upS s = ⟨#[47]⟩ ∧ ∀ j : Nat, 0 < j → ∀ h : j < s.size, (s[j].toNat : Int) ≠ 47) ∨
    ∃ i : Nat, 0 < i ∧ Lib.lastIndexByte s 47 = i ∧ upS s = s.extract 0 i ∧ ∃ h : i < s.size, (s[i].toNat : Int) = 47 ∧ ∀ j : Nat, i < j → ∀ h : j < s.size, (s[j].toNat : Int) ≠ 47 := by
  rcases Lib.lastIndexByte_spec s 47 with ⟨h1, h2⟩ | ⟨i, h1, h2, h3, h4⟩
  · refine .inl ⟨by omega, by unfold upS; rw [if_pos (by omega)], fun j _ h => ?_⟩
    have := h2 j h
    rwa [data_at h] at this
  · by_cases h0 : i = 0
    · subst h0
      refine .inl ⟨by omega, by unfold upS; rw [if_pos (by omega)], fun j hj h => ?_⟩
      have := h4 j hj h
      rwa [data_at h] at this
    · refine .inr ⟨i, by omega, h2, by unfold upS; rw [if_neg (by omega), h2]; rfl, h1, by rw [← data_at h1]; exact h3, fun j hj h => ?_⟩
      have := h4 j hj h
      rwa [data_at h] at this

theorem ret_strE {a b : ByteArray} (h : a = b) : Ending.returned (.string a) = .returned (.string b) := by rw [h]

theorem diskParent_any (s : ByteArray) (hs : s.size ≤ 1073741824) (w : World) :
    Calls Tryz.prog 12 #[.string s] w fun e w' => e = .returned (.string (upS s)) ∧ w' = w := by
  have HL : Hid (∀ W, Calls Tryz.prog 32 #[.string s, .int .u8 47] W fun e w' => e = .returned (.int .i64 (Lib.lastIndexByte s 47)) ∧ w' = W) := fun W => Tryz.strings_LastIndexByte s 47 (by omega) W
  rcases up_spec s with ⟨h1, h2, _⟩ | ⟨i, h0, h1, h2, h3, _⟩
  · have H2 := Lib.hid h2
    clear h2
    generalize Lib.lastIndexByte s 47 = z at *
    go_enter Tryz.func12, Tryz.ntmps12
    go_wp2_with fail
    refine (HL.out _).mono ?_
    rintro e w1 ⟨rfl, rfl⟩
    go_wp2_with fail
    go_ret
    exact ⟨ret_strE H2.out.symm, rfl⟩
  · have H2 := Lib.hid h2
    rw [h1] at HL
    clear h2 h1
    have hiI : ¬ (i : Int) ≤ 0 := by omega
    have hi0 : (0 : Int) ≤ (i : Int) := by omega
    have hi1 : (i : Int) ≤ (s.size : Int) := by omega
    go_enter Tryz.func12, Tryz.ntmps12
    go_wp2_with fail
    refine (HL.out _).mono ?_
    rintro e w1 ⟨rfl, rfl⟩
    go_wp2_with fail
    go_ret
    exact ⟨ret_strE H2.out.symm, rfl⟩

set_option maxHeartbeats 800000 in
theorem docParent_any (s : ByteArray) (hs : s.size ≤ 1073741824) (w : World) :
    Calls Tryz.prog 18 #[.string s] w fun e w' => e = .returned (.string (upS s)) ∧ w' = w := by
  have Hup := Lib.hid (up_spec s)
  go_enter Tryz.func18, Tryz.ntmps18
  go_wp2_with fail
  go_loop [3] (fun i => ∃ z : Int, i = .int .i64 z ∧ -1 ≤ z ∧ z < s.size ∧ Hid (∀ j : Nat, z < j → 0 < j → ∀ h : j < s.size, (s[j].toNat : Int) ≠ 47)) (fun i => (intOf i + 1).toNat)
  case atStart => exact ⟨_, rfl, by omega, by omega, fun j h1 _ h2 => absurd h1 (by omega)⟩
  case round =>
    obtain ⟨z, rfl, hz1, hz2, hno⟩ := hrel
    by_cases hz : 0 < z
    · obtain ⟨m, rfl⟩ : ∃ m : Nat, z = m := ⟨z.toNat, by omega⟩
      have hm : m < s.size := by omega
      have hm0 : (0 : Int) ≤ (m : Int) := by omega
      by_cases hb : (s[m].toNat : Int) = 47
      · have hbb : ((s[m].toNat : Int) == 47) = true := by simpa using hb
        have hup : Hid (upS s = s.extract 0 m) := by
          rcases Hup.out with ⟨_, _, h⟩ | ⟨i, h0, _, h2, h3, h4, h5⟩
          · exact absurd hb (h m (by omega) hm)
          · rcases Nat.lt_trichotomy i m with e | e | e
            · exact absurd hb (h5 m e hm)
            · subst e; exact h2
            · exact absurd h4 (hno.out i (by omega) h0 h3)
        have hm1 : (m : Int) ≤ (s.size : Int) := by omega
        clear Hup hno
        go_wp2_with fail
        go_ret
        exact ⟨ret_strE hup.out.symm, rfl⟩
      · have hbb : ((s[m].toNat : Int) == 47) = false := by simpa using hb
        have hno' : Hid (∀ j : Nat, (m : Int) - 1 < j → 0 < j → ∀ h : j < s.size, (s[j].toNat : Int) ≠ 47) := fun j h1 h2 h3 => by
          by_cases e : j = m
          · subst e; exact hb
          · exact hno.out j (by omega) h2 h3
        clear hno
        go_wp2_with fail
        go_round
        case rel => exact ⟨(m : Int) - 1, rfl, by omega, by omega, hno'⟩
        case measure => simp [intOf] <;> omega
    · have hup : Hid (upS s = ⟨#[47]⟩) := by
        rcases Hup.out with ⟨_, h, _⟩ | ⟨i, h0, _, h2, h3, h4, h5⟩
        · exact h
        · exact absurd h4 (hno.out i (by omega) h0 h3)
      clear Hup hno
      go_wp2_with fail
      go_ret
      exact ⟨ret_strE hup.out.symm, rfl⟩
end Go.Proofs.YtkpbpnecmfadlaaGreatDoor
