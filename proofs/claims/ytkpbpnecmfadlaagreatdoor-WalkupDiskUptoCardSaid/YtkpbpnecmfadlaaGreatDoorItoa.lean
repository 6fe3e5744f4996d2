/-
  The listed tables: a world in which they lie, for the row's witness; the digits' table as the walks ask it.
  Numerals in plain words: a whole number's digits.
-/
import Derived.Test.YtkpbpnecmfadlaaGreatDoorRows
import Derived.Below
import Derived.ProofKit
import Derived.LaidMore
import Derived.Stop.LaidErr
import Derived.Lib.LaidTab
import Derived.Lib.ItoaNum
import Derived.KernelRfl
import Derived.Test.YtkpbpnecmfadlaaGreatDoorRep
import Derived.Test.YtkpbpnecmfadlaaGreatDoorShelf
import Derived.Lib.AppendIntMem
namespace Go.Proofs.YtkpbpnecmfadlaaGreatDoor
open Go.RowKit
set_option linter.unusedVariables false

def flat1 : DataW Unit → List Value
  | .lit (.int k n) => [.int k n]
  | _ => []
def flat2 : DataW Unit → List Value
  | .agg l => (l.map flat1).flatten
  | d => flat1 d
def flat3 : DataW Unit → List Value
  | .agg l => (l.map flat2).flatten
  | d => flat2 d
/-- a heap in which the listed variables hold their data -/
def layAll (P : Program) : List (String × DataW Unit) → Array Obj → Array Obj
  | [], h => h
  | x :: r, h => layAll P r (match P.globalNamed x.1 with
    | some g => h.modify g fun
      | .cells _ t fr => .cells (flat3 x.2).toArray t fr
      | o => o
    | none => h)
noncomputable def laidWorld (P : Program) (l : List (String × DataW Unit)) (os : Os) : World :=
  { World.holding P os ⟨#[], #[], []⟩ with heap := layAll P l (World.holding P os ⟨#[], #[], []⟩).heap }

abbrev Tab (W : World) : Prop := Lib.TabIs Tryz.prog W "internal/strconv.uint64pow10" .u64 Lib.pow10Tab
theorem tab_below {w W : World} (h : Tab w) (hb : Below w.heap.size w W) : Tab W := by
  unfold Tab Lib.TabIs World.var? at *
  cases hg : Tryz.prog.globalNamed "internal/strconv.uint64pow10" with
  | none => rw [hg] at h; exact h
  | some g =>
    rw [hg] at h
    simp only [Option.bind_some] at *
    have hlt : g < w.heap.size := by
      rcases Nat.lt_or_ge g w.heap.size with h' | h'
      · exact h'
      · rw [Array.getElem?_eq_none h'] at h; cases h
    rw [hb.block g hlt]
    exact h
end Go.Proofs.YtkpbpnecmfadlaaGreatDoor
set_option autoImplicit false
set_option relaxedAutoImplicit false
set_option linter.unusedVariables false
namespace Go.Proofs.YtkpbpnecmfadlaaGreatDoor
def decB (u : Nat) : ByteArray := ⟨(Lib.decDigits u).toArray⟩
theorem of48 (u : Nat) : UInt8.ofNat (48 + u) = 48 + UInt8.ofNat u := by simp
theorem decB_small {u : Nat} (h : u < 10) : decB u = ⟨#[48 + UInt8.ofNat u]⟩ := by unfold decB; rw [Lib.decDigits_one h, of48]
theorem decB_step {u : Nat} (h : ¬ u < 10) : decB u = decB (u / 10) ++ ⟨#[48 + UInt8.ofNat (u % 10)]⟩ := by
  unfold decB
  rw [Lib.decDigits, dif_neg h, of48]
  apply ByteArray.ext
  simp [ByteArray.data_append]
theorem decB_size : ∀ (u : Nat), (decB u).size ≤ u + 1 := by
  intro u
  induction u using Nat.strongRecOn with
  | _ u ih =>
    by_cases h : u < 10
    · rw [decB_small h]; show 1 ≤ u + 1; omega
    · rw [decB_step h, ByteArray.size_append]
      have := ih (u / 10) (by omega)
      show (decB (u / 10)).size + 1 ≤ u + 1
      omega

theorem decB_size2 (u : Nat) : (decB u).size ≤ u / 10 + 2 := by
  by_cases h : u < 10
  · rw [decB_small h]; show 1 ≤ u / 10 + 2; omega
  · rw [decB_step h, ByteArray.size_append]
    have := decB_size (u / 10)
    show (decB (u / 10)).size + 1 ≤ u / 10 + 2
    omega
def itoaB (n : Int) : ByteArray := ⟨(Lib.itoa n).toArray⟩
theorem itoaB_pos {n : Int} (h : ¬ n < 0) : itoaB n = decB n.toNat := by unfold itoaB Lib.itoa decB; rw [if_neg h]
theorem itoaB_neg {n : Int} (h : n < 0) : itoaB n = ⟨#[45]⟩ ++ decB n.natAbs := by
  unfold itoaB Lib.itoa decB; rw [if_pos h]
  apply ByteArray.ext
  simp [ByteArray.data_append]

end Go.Proofs.YtkpbpnecmfadlaaGreatDoor
/-
  strconv.Itoa as the walks take it.
-/
set_option autoImplicit false
set_option relaxedAutoImplicit false
set_option linter.unusedVariables false
namespace Go.Proofs.YtkpbpnecmfadlaaGreatDoor
open Go.Rows Go.RowKit Go.Shelf Go.Sort
theorem itoa_any (n : Int) (hn : I64 n) (W : World) (ht : Tab W) : Calls Tryz.prog 92 #[.int .i64 n] W fun e w' => e = .returned (.string (itoaB n)) ∧ Below W.heap.size W w' :=
  (Tryz.strconv_Itoa n hn.1 hn.2 W ht).mono fun e w' ⟨he, k, os, hw⟩ => ⟨he, by rw [hw]; exact Lib.below_grow _ _ (Nat.le_refl _) _ _⟩

end Go.Proofs.YtkpbpnecmfadlaaGreatDoor
