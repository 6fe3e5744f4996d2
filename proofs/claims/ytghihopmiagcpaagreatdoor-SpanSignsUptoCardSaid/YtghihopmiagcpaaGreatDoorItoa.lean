/-
  Numerals in plain words: a whole number's digits.
-/
import Derived.Lib.ItoaNum
import Derived.Test.YtghihopmiagcpaaGreatDoorRep
import Derived.Test.YtghihopmiagcpaaGreatDoorLaid
import Derived.Test.YtghihopmiagcpaaGreatDoorShelf
import Derived.Lib.AppendIntMem
set_option autoImplicit false
set_option relaxedAutoImplicit false
set_option linter.unusedVariables false
namespace Go.Proofs.YtghihopmiagcpaaGreatDoor
def decB (u : Nat) : ByteArray := ⟨(Lib.decDigits u).toArray⟩
theorem of48 (u : Nat) : UInt8.ofNat (48 + u) = 48 + UInt8.ofNat u := by simp
theorem decB_small {u : Nat} (h : u < 10) : decB u = ⟨#[48 + UInt8.ofNat u]⟩ := by unfold decB; rw [Lib.decDigits_one h, of48]
theorem decB_step {u : Nat} (h : ¬ u < 10) : decB u = decB (u / 10) ++ ⟨#[48 + UInt8.ofNat (u % 10)]⟩ := by
  unfold decB
  rw [Lib.decDigits, dif_neg h, of48]
  apply ByteArray.ext
  simp [ByteArray.data_append]
theorem decB_size : ∀ (u : Nat), (decB u).size ≤ u + 1 := by
  intro u
  induction u using Nat.strongRecOn with
  | _ u ih =>
    by_cases h : u < 10
    · rw [decB_small h]; show 1 ≤ u + 1; omega
    · rw [decB_step h, ByteArray.size_append]
      have := ih (u / 10) (by omega)
      show (decB (u / 10)).size + 1 ≤ u + 1
      omega

theorem decB_size2 (u : Nat) : (decB u).size ≤ u / 10 + 2 := by
  by_cases h : u < 10
  · rw [decB_small h]; show 1 ≤ u / 10 + 2; omega
  · rw [decB_step h, ByteArray.size_append]
    have := decB_size (u / 10)
    show (decB (u / 10)).size + 1 ≤ u / 10 + 2
    omega
def itoaB (n : Int) : ByteArray := ⟨(Lib.itoa n).toArray⟩
theorem itoaB_pos {n : Int} (h : ¬ n < 0) : itoaB n = decB n.toNat := by unfold itoaB Lib.itoa decB; rw [if_neg h]
theorem itoaB_neg {n : Int} (h : n < 0) : itoaB n = ⟨#[45]⟩ ++ decB n.natAbs := by
  unfold itoaB Lib.itoa decB; rw [if_pos h]
  apply ByteArray.ext
  simp [ByteArray.data_append]

end Go.Proofs.YtghihopmiagcpaaGreatDoor
/-
  strconv.Itoa as the walks take it.
-/
set_option autoImplicit false
set_option relaxedAutoImplicit false
set_option linter.unusedVariables false
namespace Go.Proofs.YtghihopmiagcpaaGreatDoor
open Go.Rows Go.RowKit Go.Shelf Go.Sort
theorem itoa_any (n : Int) (hn : I64 n) (W : World) (ht : Tab W) : Calls Tryz.prog 75 #[.int .i64 n] W fun e w' => e = .returned (.string (itoaB n)) ∧ Below W.heap.size W w' :=
  (Tryz.strconv_Itoa n hn.1 hn.2 W ht).mono fun e w' ⟨he, k, os, hw⟩ => ⟨he, by rw [hw]; exact Lib.below_grow _ _ (Nat.le_refl _) _ _⟩

end Go.Proofs.YtghihopmiagcpaaGreatDoor
