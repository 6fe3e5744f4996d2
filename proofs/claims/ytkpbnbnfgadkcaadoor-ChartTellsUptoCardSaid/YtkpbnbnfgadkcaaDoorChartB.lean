/-
  The number of the plane that turns by some quarters.
-/
import Derived.Test.YtkpbnbnfgadkcaaDoorChartA
import Derived.Deep.DeepFit
namespace Go.Proofs.YtkpbnbnfgadkcaaDoor
open Go.RowKit
set_option linter.unusedVariables false
set_option linter.unusedSimpArgs false

/-- the number that turns by k quarters -/
def quart : Nat → Int × Int
  | 0 => (1, 0)
  | k + 1 => (-(quart k).2, (quart k).1)
theorem quart_small : ∀ k, (quart k).1.natAbs ≤ 1 ∧ (quart k).2.natAbs ≤ 1 := by
  intro k
  induction k with
  | zero => simp [quart]
  | succ k ih => simp only [quart]; omega

/-- how many quarters are left of q -/
def quarters (q : Int) : Int := (q.tmod 4 + 4) % 4
theorem tmod4 (q : Int) : -3 ≤ q.tmod 4 ∧ q.tmod 4 ≤ 3 := by
  have h1 := Int.tmod_lt_of_pos q (show (0 : Int) < 4 by decide)
  have h2 : -4 < q.tmod 4 := by
    have := Int.lt_tmod_of_pos q (show (0 : Int) < 4 by decide)
    simpa using this
  omega
theorem quarters_lt (q : Int) : 0 ≤ quarters q ∧ quarters q ≤ 3 := by unfold quarters; omega

theorem turn_any (q : Int) (hq : I64 q) (w : World) :
    Calls Tryd.prog 37 #[.int .i64 q] w fun e w' => ∃ re im, e = .returned (.complex .f64 re im) ∧ Flt re (quart (quarters q).toNat).1 ∧ Flt im (quart (quarters q).toNat).2 ∧ w = w' := by
  obtain ⟨hm1, hm2⟩ := tmod4 q
  obtain ⟨hq1, hq2⟩ := quarters_lt q
  unfold quarters at hq1 hq2
  unfold I64 at hq
  obtain ⟨hq3, hq4⟩ := hq
  go_enter Tryd.func37, Tryd.ntmps37
  go_wp2
  go_loop [3, 8] (fun z i => ∃ k : Nat, (k : Int) ≤ (q.tmod 4 + 4) % 4 ∧ i = .int .i64 k ∧ ∃ re im, z = .complex .f64 re im ∧ Flt re (quart k).1 ∧ Flt im (quart k).2) (fun _ i => 4 - (intOf i).toNat)
  case atStart => exact ⟨0, hq1, rfl, _, _, rfl, flt_one, flt_zero⟩
  case round =>
    obtain ⟨k, hk, rfl, re, im, rfl, hre, him⟩ := hrel
    obtain ⟨s1, s2⟩ := quart_small k
    by_cases hlt : (k : Int) < (q.tmod 4 + 4) % 4
    · obtain ⟨e, f, he, h1, h2⟩ := cmul_small hre him flt_zero flt_one (by omega) (by omega) (by decide) (by decide)
      have hm := fun W => run_complex_mul (P := Tryd.prog) W 46 re im 0 4607182418800017408 e f he
      have h1' : Flt e (quart (k + 1)).1 := by simpa [quart] using h1
      have h2' : Flt f (quart (k + 1)).2 := by simpa [quart] using h2
      clear h1 h2 hre him he
      go_wp2
      go_round
      case rel => exact ⟨k + 1, by omega, by go_num, _, _, rfl, h1', h2'⟩
      case measure => simp [intOf]; omega
    · go_wp2
      go_ret
      have hkk : k = (quarters q).toNat := by unfold quarters; omega
      exact ⟨_, _, rfl, by rw [← hkk]; exact hre, by rw [← hkk]; exact him, rfl⟩

/-- is a spot too far? -/
def farB (x y : Int) : Bool := decide (x < -1099511627776) || decide (1099511627776 < x) || decide (y < -1099511627776) || decide (1099511627776 < y)

theorem may1_any (p : Value) (x y : Int) (w : World) :
    Calls Tryd.prog 28 #[.agg #[p, .int .i64 x, .int .i64 y]] w fun e w' => e = .returned (.bool (farB x y)) ∧ Below w.heap.size w w' := by
  by_cases h1 : x < -1099511627776
  · go_enter Tryd.func28, Tryd.ntmps28
    go_wp2
    go_ret
    exact ⟨ret_bool (by simp [farB, h1]), (Below.refl _ _).alloc (Nat.le_refl _) _⟩
  · by_cases h2 : 1099511627776 < x
    · go_enter Tryd.func28, Tryd.ntmps28
      go_wp2
      go_ret
      exact ⟨ret_bool (by simp [farB, h2]), (Below.refl _ _).alloc (Nat.le_refl _) _⟩
    · by_cases h3 : y < -1099511627776
      · go_enter Tryd.func28, Tryd.ntmps28
        go_wp2
        go_ret
        exact ⟨ret_bool (by simp [farB, h3]), (Below.refl _ _).alloc (Nat.le_refl _) _⟩
      · by_cases h4 : 1099511627776 < y
        all_goals
          go_enter Tryd.func28, Tryd.ntmps28
          go_wp2
          go_ret
          exact ⟨ret_bool (by simp [farB, h1, h2, h3, h4]), (Below.refl _ _).alloc (Nat.le_refl _) _⟩
end Go.Proofs.YtkpbnbnfgadkcaaDoor
