/-
  Parent of any place, on both sides.
-/
import Derived.Test.YtanipbpphbkmcaaGreatDoorFind
set_option autoImplicit false
set_option relaxedAutoImplicit false
set_option linter.unusedVariables false
set_option linter.unusedSimpArgs false
namespace Go.Proofs.YtanipbpphbkmcaaGreatDoor
open Go.Rows Go.RowKit Go.Shelf Go.Sort

noncomputable def parentI (t : List Dir) (i : Int) : Int := if h : 0 ≤ i ∧ i.toNat < t.length then (if (t[i.toNat]'h.2).path = [] then -1 else aboveI t (t[i.toNat]'h.2).path) else -1

set_option maxHeartbeats 1600000 in
set_option maxRecDepth 100000 in
theorem parent_at (A : Option Addr) (n c : Nat) (xs : List Dir) (w : World) (S : Nat → Prop) (k : Nat) (hk : k < xs.length) (hne : xs[k].path ≠ []) (hx : SlV rDir w S xs (.slice A n c)) :
    Calls Tryz.prog 24 #[.agg #[.slice A n c], .int .i64 k] w fun e w' => e = .returned (.int .i64 (aboveI xs xs[k].path)) ∧ Below w.heap.size w w' := by
  have hnx := hx.n_eq
  have hcx := hx.cap_le
  unfold maxLen at hcx
  have hn63 : n ≤ 9223372036854775807 := by omega
  have hx0 := hx
  obtain ⟨b, o, cs, rfl, _, hb1, hh, hcell⟩ := hx.elem (List.getElem?_eq_getElem hk)
  obtain ⟨s0, s1, s2, s3, rfl, hp0, _, _, _, _, hp1, hp2, hp3, _⟩ := hh
  obtain ⟨pA, pc, rfl, hpl, hpm⟩ := hp0.val
  unfold maxLen at hpm
  have c0 := hcell 0 _ rfl
  simp only [rDir, Nat.add_zero] at c0
  obtain ⟨q, hq⟩ : ∃ q, xs[k].path.length = q + 1 := ⟨xs[k].path.length - 1, by have : xs[k].path.length ≠ 0 := fun h => hne (List.eq_nil_of_length_eq_zero h); omega⟩
  have Hcall : Hid (∀ o', ∀ d os, Calls Tryz.prog 23 #[.agg #[.slice (some ⟨b, o, none⟩) n c], .slice pA q pc] (grow (redrawn (w.alloc o') d) os) fun e w'' => e = .returned (.int .i64 (aboveI xs xs[k].path)) ∧ ∃ p : Regrown, w'' = grow (redrawn (w.alloc o') p.d) p.os) := fun o' => by
    have e : aboveI xs xs[k].path = findI xs (xs[k].path.take q) := by unfold aboveI; rw [hq]; rfl
    rw [e]
    exact qcall (w := w.alloc o') (fun W hW => find_any _ _ _ _ _ _ xs (xs[k].path.take q) W _ _ ((hx0.alloc o').belowSize hW) (((hp0.take (by omega)).alloc o').belowSize hW))
  clear hcell hx hp0 hp1 hp2 hp3 hx0
  generalize aboveI xs xs[k].path = r at *
  rw [hq] at c0
  have hkn : (k : Int) < (n : Int) := by omega
  have hk0 : (0 : Int) ≤ (k : Int) := by omega
  have hnk : ¬ (n : Int) ≤ (k : Int) := by omega
  have hk9 : ¬ (k : Int) < 0 := by omega
  have hq0 : ((q + 1 : Nat) : Int) ≠ 0 := by omega
  have hqb : (((q + 1 : Nat) : Int) == 0) = false := by simp; omega
  have hw1 : IntKind.i64.wrap ((q : Int) + 1 - 1) = (q : Int) := (IntWalk.i64_in _ ⟨by omega, by omega⟩).trans (by omega)
  have hw2 : IntKind.i64.wrap (q : Int) = (q : Int) := IntWalk.i64_in _ ⟨by omega, by omega⟩
  have hqc : q ≤ pc := by omega
  clear hne hpl hpm hq hcx hnx
  go_enter Tryz.func24, Tryz.ntmps24
  go_wp2_with fail
  have a0 : (w.alloc (.cells #[.slice (some ⟨b, o, none⟩) n c] 24)).cell? ⟨w.heap.size, 0, none⟩ = some (.slice (some ⟨b, o, none⟩) n c) := by simp [go_sem]
  have r_a0 := cell_regrown a0
  refine wp_region_qb (by kernel_rfl) (by kernel_rfl) ?_
  repeat (go_big_quiet_step (first | (with_reducible exact Hcall.out _ _ _)))
  refine wpQuiet_nil ?_
  intro w1 B1
  go_wp2_with fail
  go_ret
  exact ⟨rfl, bnew B1⟩

set_option maxHeartbeats 1600000 in
set_option maxRecDepth 100000 in
theorem parent_any (A : Option Addr) (n c : Nat) (xs : List Dir) (w : World) (S : Nat → Prop) (i : Int) (hx : SlV rDir w S xs (.slice A n c)) :
    Calls Tryz.prog 24 #[.agg #[.slice A n c], .int .i64 i] w fun e w' => e = .returned (.int .i64 (parentI xs i)) ∧ Below w.heap.size w w' := by
  have hnx := hx.n_eq
  have hcx := hx.cap_le
  unfold maxLen at hcx
  by_cases h0 : i < 0
  · have hd : decide (i < 0) = true := decide_eq_true h0
    have He : Hid (parentI xs i = -1) := by unfold Hid parentI; rw [dif_neg (by omega)]
    clear hx hnx hcx
    generalize parentI xs i = R at *
    go_enter Tryz.func24, Tryz.ntmps24
    go_wp2_with fail
    go_ret
    exact ⟨ret_int He.out.symm, bal (Below.refl _ _) _⟩
  have hd : decide (i < 0) = false := decide_eq_false h0
  by_cases h1 : (n : Int) ≤ i
  · have hd1 : decide ((n : Int) ≤ i) = true := decide_eq_true h1
    have He : Hid (parentI xs i = -1) := by unfold Hid parentI; rw [dif_neg (by omega)]
    clear hx hnx hcx
    generalize parentI xs i = R at *
    go_enter Tryz.func24, Tryz.ntmps24
    go_wp2_with fail
    go_ret
    exact ⟨ret_int He.out.symm, bal (Below.refl _ _) _⟩
  have hd1 : decide ((n : Int) ≤ i) = false := decide_eq_false h1
  obtain ⟨k, rfl⟩ : ∃ k : Nat, i = (k : Int) := ⟨i.toNat, by omega⟩
  have hk : k < xs.length := by omega
  by_cases hp0 : xs[k].path = []
  · have He : Hid (parentI xs (k : Int) = -1) := by
      unfold Hid parentI; rw [dif_pos (by omega)]; simp only [Int.toNat_natCast]; rw [if_pos hp0]
    obtain ⟨b, o, cs, rfl, _, hb1, hh, hcell⟩ := hx.elem (List.getElem?_eq_getElem hk)
    obtain ⟨s0, s1, s2, s3, rfl, hp, _, _, _, _, _, _, _, _⟩ := hh
    obtain ⟨pA, pc, rfl, _, _⟩ := hp.val
    have c0 := hcell 0 _ rfl
    simp only [rDir, Nat.add_zero] at c0
    rw [hp0, List.length_nil] at c0
    have k0 : ∀ ob : Obj, (w.alloc ob).cell? ⟨b, o + k * 9, none⟩ = some (.slice pA 0 pc) := fun ob => below_cell (bal (Below.refl _ _) ob) c0 hb1
    have hkn : (k : Int) < (n : Int) := by omega
    have hk0 : (0 : Int) ≤ (k : Int) := by omega
    clear hx hcell hp hcx
    generalize parentI xs (k : Int) = R at *
    go_enter Tryz.func24, Tryz.ntmps24
    go_wp2_with fail
    go_ret
    exact ⟨ret_int He.out.symm, bal (Below.refl _ _) _⟩
  · have e : parentI xs (k : Int) = aboveI xs xs[k].path := by
      unfold parentI; rw [dif_pos (by omega)]; simp only [Int.toNat_natCast]; rw [if_neg hp0]
    rw [e]
    exact parent_at A n c xs w S k hk hp0 hx

set_option maxHeartbeats 1600000 in
set_option maxRecDepth 100000 in
theorem refParent_any (A : Option Addr) (n c : Nat) (xs : List Dir) (w : World) (S : Nat → Prop) (i : Int) (hx : SlV rDir w S xs (.slice A n c)) :
    Calls Tryz.prog 25 #[.agg #[.slice A n c], .int .i64 i] w fun e w' => e = .returned (.int .i64 (parentI xs i)) ∧ Below w.heap.size w w' := by
  have hnx := hx.n_eq
  have hcx := hx.cap_le
  unfold maxLen at hcx
  by_cases h0 : i < 0
  · have hd : decide (i < 0) = true := decide_eq_true h0
    have He : Hid (parentI xs i = -1) := by unfold Hid parentI; rw [dif_neg (by omega)]
    clear hx hnx hcx
    generalize parentI xs i = R at *
    go_enter Tryz.func25, Tryz.ntmps25
    go_wp2_with fail
    go_ret
    exact ⟨ret_int He.out.symm, bal (Below.refl _ _) _⟩
  have hd : decide (i < 0) = false := decide_eq_false h0
  by_cases h1 : (n : Int) ≤ i
  · have hd1 : decide ((n : Int) ≤ i) = true := decide_eq_true h1
    have He : Hid (parentI xs i = -1) := by unfold Hid parentI; rw [dif_neg (by omega)]
    clear hx hnx hcx
    generalize parentI xs i = R at *
    go_enter Tryz.func25, Tryz.ntmps25
    go_wp2_with fail
    go_ret
    exact ⟨ret_int He.out.symm, bal (Below.refl _ _) _⟩
  have hd1 : decide ((n : Int) ≤ i) = false := decide_eq_false h1
  obtain ⟨k, rfl⟩ : ∃ k : Nat, i = (k : Int) := ⟨i.toNat, by omega⟩
  have hk : k < xs.length := by omega
  by_cases hp0 : xs[k].path = []
  · have He : Hid (parentI xs (k : Int) = -1) := by
      unfold Hid parentI; rw [dif_pos (by omega)]; simp only [Int.toNat_natCast]; rw [if_pos hp0]
    obtain ⟨b, o, cs, rfl, _, hb1, hh, hcell⟩ := hx.elem (List.getElem?_eq_getElem hk)
    obtain ⟨s0, s1, s2, s3, rfl, hp, _, _, _, _, _, _, _, _⟩ := hh
    obtain ⟨pA, pc, rfl, _, _⟩ := hp.val
    have c0 := hcell 0 _ rfl
    simp only [rDir, Nat.add_zero] at c0
    rw [hp0, List.length_nil] at c0
    have k0 : ∀ ob : Obj, (w.alloc ob).cell? ⟨b, o + k * 9, none⟩ = some (.slice pA 0 pc) := fun ob => below_cell (bal (Below.refl _ _) ob) c0 hb1
    have hkn : (k : Int) < (n : Int) := by omega
    have hk0 : (0 : Int) ≤ (k : Int) := by omega
    clear hx hcell hp hcx
    generalize parentI xs (k : Int) = R at *
    go_enter Tryz.func25, Tryz.ntmps25
    go_wp2_with fail
    go_ret
    exact ⟨ret_int He.out.symm, bal (Below.refl _ _) _⟩
  · have e : parentI xs (k : Int) = aboveI xs xs[k].path := by
      unfold parentI; rw [dif_pos (by omega)]; simp only [Int.toNat_natCast]; rw [if_neg hp0]
    rw [e]
    exact refParent_at A n c xs w S k hk hp0 hx
end Go.Proofs.YtanipbpphbkmcaaGreatDoor
