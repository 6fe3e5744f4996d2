/-
  The document's digits and Number (23): a whole number's numeral, as the library's.
-/
import Derived.Test.YtkpbnbnfgadkcaaDoorRows
import Derived.Test.YtkpbnbnfgadkcaaDoorRep
import Derived.Test.YtkpbnbnfgadkcaaDoorPlain
import Derived.Test.YtkpbnbnfgadkcaaDoorOwn
import Derived.Test.YtkpbnbnfgadkcaaDoorShelf
import Derived.Lib.ItoaNum
import Derived.Laws.Concat
import Derived.WalkKit
import Derived.WalkSpells
import Derived.WalkLawsBesides
import Derived.Deep.RegionWith
import Derived.Deep.RegionHeld3
import Derived.IntWalk
import Derived.Lib.Hide
set_option autoImplicit false
set_option relaxedAutoImplicit false
set_option linter.unusedVariables false
set_option linter.unusedSimpArgs false
namespace Go.Proofs.YtkpbnbnfgadkcaaDoor
open Go.Rows Go.RowKit Go.Shelf

def decB (u : Nat) : ByteArray := ⟨(Lib.decDigits u).toArray⟩
theorem of48 (u : Nat) : UInt8.ofNat (48 + u) = 48 + UInt8.ofNat u := by simp
theorem decB_small {u : Nat} (h : u < 10) : decB u = ⟨#[48 + UInt8.ofNat u]⟩ := by unfold decB; rw [Lib.decDigits_one h, of48]
theorem decB_step {u : Nat} (h : ¬ u < 10) : decB u = decB (u / 10) ++ ⟨#[48 + UInt8.ofNat (u % 10)]⟩ := by
  unfold decB
  rw [Lib.decDigits, dif_neg h, of48]
  apply ByteArray.ext
  simp [ByteArray.data_append]
theorem decB_size : ∀ (u : Nat), (decB u).size ≤ u + 1 := by
  intro u
  induction u using Nat.strongRecOn with
  | _ u ih =>
    by_cases h : u < 10
    · rw [decB_small h]; show 1 ≤ u + 1; omega
    · rw [decB_step h, ByteArray.size_append]
      have := ih (u / 10) (by omega)
      show (decB (u / 10)).size + 1 ≤ u + 1
      omega

theorem decB_size2 (u : Nat) : (decB u).size ≤ u / 10 + 2 := by
  by_cases h : u < 10
  · rw [decB_small h]; show 1 ≤ u / 10 + 2; omega
  · rw [decB_step h, ByteArray.size_append]
    have := decB_size (u / 10)
    show (decB (u / 10)).size + 1 ≤ u / 10 + 2
    omega
theorem conv_digit (W : World) (b d : Nat) (hd : d < 10) (h : W.cell? ⟨b, 0, none⟩ = some (.int .u8 (48 + (d : Int)))) :
    (convert 50 9 (.slice (some ⟨b, 0, none⟩) 1 1)).run Tryd.prog W = .ok (.string ⟨#[48 + UInt8.ofNat d]⟩) W := by
  rw [← of48]
  refine run_convert_bytes_back W 50 9 5 ⟨b, 0, none⟩ 1 [UInt8.ofNat (48 + d)] Tryd.underlying50 Tryd.underlying5 Tryd.underlying9 ?_
  intro j hj
  have hj0 : j = 0 := by simp at hj; exact hj
  subst hj0
  show W.cell? ⟨b, 0, none⟩ = _
  rw [h]
  have : (UInt8.ofNat (48 + d)).toNat = 48 + d := by simp; omega
  simp only [List.getElem_cons_zero, this]
  rfl

theorem conv_after (w W : World) (d : Nat) (hd : d < 10) (h : Below (w.alloc (.cells #[.int .u8 (48 + (d : Int))] 5)).drew.heap.size (w.alloc (.cells #[.int .u8 (48 + (d : Int))] 5)).drew W) :
    (convert 50 9 (.slice (some ⟨w.heap.size, 0, none⟩) 1 1)).run Tryd.prog W = .ok (.string ⟨#[48 + UInt8.ofNat d]⟩) W :=
  conv_digit W _ d hd (below_cell h (by simp) (by simp))
theorem conv_here (w : World) (d : Nat) (hd : d < 10) :
    (convert 50 9 (.slice (some ⟨w.heap.size, 0, none⟩) 1 1)).run Tryd.prog (w.alloc (.cells #[.int .u8 (48 + (d : Int))] 5)) = .ok (.string ⟨#[48 + UInt8.ofNat d]⟩) (w.alloc (.cells #[.int .u8 (48 + (d : Int))] 5)) :=
  conv_digit _ _ d hd (by simp)
theorem conv_here_drew (w : World) (d : Nat) (hd : d < 10) :
    (convert 50 9 (.slice (some ⟨w.heap.size, 0, none⟩) 1 1)).run Tryd.prog (w.alloc (.cells #[.int .u8 (48 + (d : Int))] 5)).drew = .ok (.string ⟨#[48 + UInt8.ofNat d]⟩) (w.alloc (.cells #[.int .u8 (48 + (d : Int))] 5)).drew :=
  conv_digit _ _ d hd (by simp)

def DigitsOk (u : Nat) : Prop := ∀ w : World, Calls Tryd.prog 34 #[.int .u64 u] w fun e w' => e = .returned (.string (decB u)) ∧ Below w.heap.size w w'

set_option maxHeartbeats 800000 in
set_option maxRecDepth 100000 in
theorem digits_small (u : Nat) (h : u < 10) : DigitsOk u := by
  intro w
  have hlt : (u : Int) < 10 := by omega
  have hu0 : (0 : Int) ≤ u := by omega
  have hE := Lib.hid (decB_small h)
  have h1 : IntKind.u64.wrap (48 + (u : Int)) = 48 + (u : Int) := IntWalk.u64_in _ ⟨by omega, by omega⟩
  go_enter Tryd.func34, Tryd.ntmps34
  go_wp2_with fail
  rw [conv_digit _ _ u h (by simp)]
  simp only [Result.andThen]
  rw [Oper.upon_value]
  go_wp2_with fail
  go_ret
  exact ⟨ret_str hE.out.symm, (Below.refl _ _).alloc (Nat.le_refl _) _⟩

set_option maxHeartbeats 800000 in
set_option maxRecDepth 100000 in
theorem digits_step (u : Nat) (h : ¬ u < 10) (hu : u ≤ 18446744073709551615) (ih : DigitsOk (u / 10)) : DigitsOk u := by
  intro w
  have hlt : (10 : Int) ≤ u := by omega
  have hu0 : (0 : Int) ≤ u := by omega
  have hE := Lib.hid (decB_step h)
  have Hih := Lib.hid ih
  have hz : (decB (u / 10)).size + (⟨#[48 + UInt8.ofNat (u % 10)]⟩ : ByteArray).size ≤ 9223372036854775807 := by
    have := decB_size (u / 10)
    have h1 : (⟨#[48 + UInt8.ofNat (u % 10)]⟩ : ByteArray).size = 1 := rfl
    rw [h1]; omega
  have HZ := Lib.hid hz; clear hz
  clear ih
  have hq : IntKind.u64.wrap ((u : Int) / 10) = ((u / 10 : Nat) : Int) := (IntWalk.u64_in _ ⟨by omega, by omega⟩).trans (by omega)
  have hr : (u : Int).tmod 10 = ((u % 10 : Nat) : Int) := by rw [Int.tmod_eq_emod_of_nonneg hu0]; omega
  have hm : u % 10 < 10 := by omega
  have h1 : IntKind.u64.wrap (48 + ((u % 10 : Nat) : Int)) = 48 + ((u % 10 : Nat) : Int) := IntWalk.u64_in _ ⟨by omega, by omega⟩
  have h2 : IntKind.u8.wrap (48 + ((u % 10 : Nat) : Int)) = 48 + ((u % 10 : Nat) : Int) := IntWalk.u8_in _ ⟨by omega, by omega⟩
  generalize hqq : u / 10 = q at *
  generalize hrr : u % 10 = r at *
  clear h hu hqq hrr
  go_enter Tryd.func34, Tryd.ntmps34
  go_wp2_with fail
  have hc1 := fun W : World => conv_here W r hm
  have hc2 := fun W : World => conv_here_drew W r hm
  have hadd : ∀ W : World, (Op.stringOp .add (decB q) ⟨#[48 + UInt8.ofNat r]⟩).run Tryd.prog W = .ok (.string (decB u)) W := fun W => by rw [hE.out]; exact run_string_add_sum W _ _ HZ.out
  go_region_with (go_at_call 34; refine (Hih.out _).mono ?_; rintro e w1 ⟨rfl, hb1⟩; try have hcv := conv_after _ _ _ hm hb1)
  all_goals go_wp2_with fail
  all_goals go_ret
  all_goals first
    | exact ⟨rfl, ((Below.refl _ w).drew.trans hb1).alloc hb1.size _⟩
    | exact ⟨rfl, ((Below.refl _ w).alloc (Nat.le_refl _) _).drew.trans (hb1.mono (by simp))⟩

theorem digits_any : ∀ (u : Nat), u ≤ 18446744073709551615 → DigitsOk u := by
  intro u
  induction u using Nat.strongRecOn with
  | _ u ih =>
    intro hu
    by_cases h : u < 10
    · exact digits_small u h
    · exact digits_step u h hu (ih (u / 10) (by omega) (by omega))

def itoaB (n : Int) : ByteArray := ⟨(Lib.itoa n).toArray⟩
theorem itoaB_pos {n : Int} (h : ¬ n < 0) : itoaB n = decB n.toNat := by unfold itoaB Lib.itoa decB; rw [if_neg h]
theorem itoaB_neg {n : Int} (h : n < 0) : itoaB n = ⟨#[45]⟩ ++ decB n.natAbs := by
  unfold itoaB Lib.itoa decB; rw [if_pos h]
  apply ByteArray.ext
  simp [ByteArray.data_append]

set_option maxHeartbeats 800000 in
set_option maxRecDepth 100000 in
theorem number_any (n : Int) (h0 : -9223372036854775808 ≤ n) (h1 : n ≤ 9223372036854775807) (w : World) :
    Calls Tryd.prog 23 #[.int .i64 n] w fun e w' => e = .returned (.string (itoaB n)) ∧ Below w.heap.size w w' := by
  by_cases hn : n < 0
  · have hD := digits_any n.natAbs (by omega)
    have HD := Lib.hid hD; clear hD
    have hE := Lib.hid (itoaB_neg hn)
    have hz : (⟨#[45]⟩ : ByteArray).size + (decB n.natAbs).size ≤ 9223372036854775807 := by
      have := decB_size2 n.natAbs
      have h45 : (⟨#[45]⟩ : ByteArray).size = 1 := rfl
      rw [h45]; omega
    have hadd : ∀ W : World, (Op.stringOp .add ⟨#[45]⟩ (decB n.natAbs)).run Tryd.prog W = .ok (.string (itoaB n)) W := fun W => by rw [hE.out]; exact run_string_add_sum W _ _ hz
    clear hz
    have hw1 : IntKind.u64.wrap (wrap64 (-n)) = ((n.natAbs : Nat) : Int) := by
      simp only [wrap64, IntKind.wrap, IntKind.bits, IntKind.signed]; simp; omega
    generalize hna : n.natAbs = u at *
    go_enter Tryd.func23, Tryd.ntmps23
    go_wp2_with (go_at_call 34; refine (HD.out _).mono ?_; rintro e w1 ⟨rfl, hb1⟩)
    go_wp2_with fail
    go_ret
    exact ⟨rfl, hb1⟩
  · have hD := digits_any n.toNat (by omega)
    have HD := Lib.hid hD; clear hD
    have hE := Lib.hid (itoaB_pos hn)
    have hw1 : IntKind.u64.wrap n = ((n.toNat : Nat) : Int) := (IntWalk.u64_in _ ⟨by omega, by omega⟩).trans (by omega)
    generalize hna : n.toNat = u at *
    go_enter Tryd.func23, Tryd.ntmps23
    go_wp2_with (go_at_call 34; refine (HD.out _).mono ?_; rintro e w1 ⟨rfl, hb1⟩)
    go_wp2_with fail
    go_ret
    exact ⟨ret_str hE.out.symm, hb1⟩
end Go.Proofs.YtkpbnbnfgadkcaaDoor
