/-
  Parent of any place, on both sides.
-/
import Derived.Test.YtkpbnbnfgadkcaaGreatDoorFind
set_option autoImplicit false
set_option relaxedAutoImplicit false
set_option linter.unusedVariables false
set_option linter.unusedSimpArgs false
namespace Go.Proofs.YtkpbnbnfgadkcaaGreatDoor
open Go.Rows Go.RowKit Go.Shelf Go.Sort

noncomputable def parentI (t : List Dir) (i : Int) : Int := if h : 0 ≤ i ∧ i.toNat < t.length then (if (t[i.toNat]'h.2).path = [] then -1 else aboveI t (t[i.toNat]'h.2).path) else -1

set_option maxHeartbeats 1600000 in
set_option maxRecDepth 100000 in
theorem refParent_any (A : Option Addr) (n c : Nat) (xs : List Dir) (w : World) (S : Nat → Prop) (i : Int) (hx : SlV rDir w S xs (.slice A n c)) :
    Calls Tryz.prog 47 #[.agg #[.slice A n c], .int .i64 i] w fun e w' => e = .returned (.int .i64 (parentI xs i)) ∧ Below w.heap.size w w' := by
  have hnx := hx.n_eq
  have hcx := hx.cap_le
  unfold maxLen at hcx
  by_cases h0 : i < 0
  · have hd : decide (i < 0) = true := decide_eq_true h0
    have He : Hid (parentI xs i = -1) := by unfold Hid parentI; rw [dif_neg (by omega)]
    clear hx hnx hcx
    generalize parentI xs i = R at *
    go_enter Tryz.func47, Tryz.ntmps47
    go_wp2_with fail
    go_ret
    exact ⟨ret_int He.out.symm, bal (Below.refl _ _) _⟩
  have hd : decide (i < 0) = false := decide_eq_false h0
  by_cases h1 : (n : Int) ≤ i
  · have hd1 : decide ((n : Int) ≤ i) = true := decide_eq_true h1
    have He : Hid (parentI xs i = -1) := by unfold Hid parentI; rw [dif_neg (by omega)]
    clear hx hnx hcx
    generalize parentI xs i = R at *
    go_enter Tryz.func47, Tryz.ntmps47
    go_wp2_with fail
    go_ret
    exact ⟨ret_int He.out.symm, bal (Below.refl _ _) _⟩
  have hd1 : decide ((n : Int) ≤ i) = false := decide_eq_false h1
  obtain ⟨k, rfl⟩ : ∃ k : Nat, i = (k : Int) := ⟨i.toNat, by omega⟩
  have hk : k < xs.length := by omega
  by_cases hp0 : xs[k].path = []
  · have He : Hid (parentI xs (k : Int) = -1) := by
      unfold Hid parentI; rw [dif_pos (by omega)]; simp only [Int.toNat_natCast]; rw [if_pos hp0]
    obtain ⟨b, o, cs, rfl, _, hb1, hh, hcell⟩ := hx.elem (List.getElem?_eq_getElem hk)
    obtain ⟨s0, s1, s2, s3, rfl, hp, _, _, _, _, _, _, _, _⟩ := hh
    obtain ⟨pA, pc, rfl, _, _⟩ := hp.val
    have c0 := hcell 0 _ rfl
    simp only [rDir, Nat.add_zero] at c0
    rw [hp0, List.length_nil] at c0
    have k0 : ∀ ob : Obj, (w.alloc ob).cell? ⟨b, o + k * 9, none⟩ = some (.slice pA 0 pc) := fun ob => below_cell (bal (Below.refl _ _) ob) c0 hb1
    have hkn : (k : Int) < (n : Int) := by omega
    have hk0 : (0 : Int) ≤ (k : Int) := by omega
    clear hx hcell hp hcx
    generalize parentI xs (k : Int) = R at *
    go_enter Tryz.func47, Tryz.ntmps47
    go_wp2_with fail
    go_ret
    exact ⟨ret_int He.out.symm, bal (Below.refl _ _) _⟩
  · have e : parentI xs (k : Int) = aboveI xs xs[k].path := by
      unfold parentI; rw [dif_pos (by omega)]; simp only [Int.toNat_natCast]; rw [if_neg hp0]
    rw [e]
    exact refParent_at A n c xs w S k hk hp0 hx
end Go.Proofs.YtkpbnbnfgadkcaaGreatDoor
