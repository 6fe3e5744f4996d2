/-
  The law WalkupLooks, walked.
-/
import Derived.Test.YtanipbpphbkmcaaDoorLives13
import Derived.Test.YtanipbpphbkmcaaDoorLook
set_option autoImplicit false
set_option relaxedAutoImplicit false
set_option linter.unusedVariables false
set_option linter.unusedSimpArgs false
namespace Go.Proofs.YtanipbpphbkmcaaDoor
open Go.Rows Go.RowKit Go.Shelf Go.Sort

set_option maxHeartbeats 3200000 in
set_option maxRecDepth 100000 in
theorem walkupLooks_any (A : Option Addr) (n c : Nat) (xs : List Dir) (x : Int) (s : ByteArray) (w : World) (ht : Tab w) (hx : SlV rDir w (fun b => b < w.heap.size) xs (.slice A n c)) (hlen : ∀ d ∈ xs, d.path.length * 32 ≤ 140737488355328) (hI : I64 x) (hs : s.size ≤ 1048576) :
    Calls Tryd.prog 4 #[.agg #[.slice A n c], .int .i64 x, .string s] w fun e w' => e = .returned (.bool true) ∧ Below w.heap.size w w' := by
  have hnx := hx.n_eq
  have hcx := hx.cap_le
  unfold maxLen at hcx
  have hn63 : n ≤ 9223372036854775807 := by omega
  have hsm : s.size ≤ maxLen := by unfold maxLen; omega
  have Hlk : Hid (∀ (i : Int) W, Below w.heap.size w W → Calls Tryd.prog 10 #[.agg #[.slice A n c], .int .i64 i, .string s] W fun e w' => e = .returned (.int .i64 (lookI xs i s)) ∧ Below W.heap.size W w') := fun i W hW => look_any A n c xs s W _ i hsm hlen (hx.belowSize hW)
  have Hrf : Hid (∀ (i : Int) W, Below w.heap.size w W → Calls Tryd.prog 11 #[.agg #[.slice A n c], .int .i64 i, .string s] W fun e w' => e = .returned (.int .i64 (lookI xs i s)) ∧ Below W.heap.size W w') := fun i W hW => refLook_any A n c xs s W _ i hsm hlen (hx.belowSize hW)
  have Hlv : Hid (∀ W, Below w.heap.size w W → Calls Tryd.prog 12 #[] W fun e w' => e = .returned (.bool true) ∧ Below W.heap.size W w') := fun W hW => lives13_any W (tab_below ht hW)
  have Hnx := Lib.hid hnx
  clear hx hlen ht hnx hcx hI hs hsm
  go_enter Tryd.func4, Tryd.ntmps4
  go_wp2_with fail
  obtain ⟨w0, hw0⟩ : ∃ w0, w0 = w.alloc (.cells #[.slice A n c] 24) := ⟨_, rfl⟩
  have hz : w.heap.size < w0.heap.size := by rw [hw0]; simp [go_sem]
  have HB0 : Hid (Below w.heap.size w w0) := by unfold Hid; rw [hw0]; exact bal (Below.refl _ _) _
  have a0 : w0.cell? ⟨w.heap.size, 0, none⟩ = some (.slice A n c) := by rw [hw0]; simp [go_sem]
  rw [← hw0]
  clear hw0
  have HA0 := Lib.hid a0
  have H1 := Lib.hid (qcall (w := w0) (fun W hW => Hlk.out x W (bot HB0.out hW)))
  have H2 := Lib.hid (qcall (w := w0) (fun W hW => Hrf.out x W (bot HB0.out hW)))
  generalize lookI xs x s = L at *
  have hLL : (L != L) = false := by simp
  have r_a0 := cell_regrown a0
  go_wp2_with fail
  refine wp_region_qb (by kernel_rfl) (by kernel_rfl) ?_
  repeat (go_big_quiet_step (first | (with_reducible exact H1.out _ _) | (with_reducible exact H2.out _ _)))
  refine wpQuiet_nil ?_
  intro w1 B1
  have Q1 := Lib.hid B1
  clear B1 a0 r_a0 H1 H2 hLL
  go_wp2_with fail
  go_loopw [7] (fun i wr => ∃ k : Nat, k ≤ n ∧ i = .int .i64 k ∧ Below w0.heap.size w0 wr) (fun i _ => n - (intOf i).toNat)
  case atStart => exact ⟨0, Nat.zero_le _, rfl, Q1.out⟩
  case round =>
    obtain ⟨k, hk, rfl, hbel⟩ := hrel
    have b0 := below_cell hbel HA0.out hz
    have hbw := bot HB0.out hbel
    by_cases hlt : k < n
    · have hkI : (k : Int) < (n : Int) := by omega
      have hk0 : (0 : Int) ≤ (k : Int) := by omega
      have H1 := Lib.hid (qcall (w := wr) (fun W hW => Hlk.out (k : Int) W (bot hbw hW)))
      have H2 := Lib.hid (qcall (w := wr) (fun W hW => Hrf.out (k : Int) W (bot hbw hW)))
      generalize lookI xs (k : Int) s = L at *
      have hLL : (L != L) = false := by simp
      have r_b0 := cell_regrown b0
      go_wp2_with fail
      refine wp_region_qb (by kernel_rfl) (by kernel_rfl) ?_
      repeat (go_big_quiet_step (first | (with_reducible exact H1.out _ _) | (with_reducible exact H2.out _ _)))
      refine wpQuiet_nil ?_
      intro w2 B2
      go_wp2_with fail
      go_roundw
      case rel => exact ⟨k + 1, by omega, by go_num, bot hbel B2⟩
      case measure => simp [intOf]; omega
    · have hlt' : ¬ (k : Int) < (n : Int) := by omega
      go_wp2_with fail
      refine (Hlv.out wr hbw).mono ?_
      rintro e w2 ⟨rfl, B2⟩
      go_wp2_with fail
      go_ret
      exact ⟨rfl, bot hbw B2⟩
end Go.Proofs.YtanipbpphbkmcaaDoor
