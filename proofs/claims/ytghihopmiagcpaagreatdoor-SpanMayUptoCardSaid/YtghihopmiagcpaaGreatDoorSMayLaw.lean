/-
  halyardlaw03.SpanMay, walked.
-/
import Derived.Test.YtghihopmiagcpaaGreatDoorKnown
set_option autoImplicit false
set_option relaxedAutoImplicit false
set_option linter.unusedVariables false
set_option linter.unusedSimpArgs false
namespace Go.Proofs.YtghihopmiagcpaaGreatDoor
open Go.Rows Go.RowKit Go.Shelf Go.Sort

set_option maxHeartbeats 2000000 in
set_option maxRecDepth 100000 in
theorem spanMay_law (A : Option Addr) (n c : Nat) (l : List Spn) (v : Ver) (w : World) (hv : Vok w) (hl : SlV rSpn w (fun b => b < w.heap.size) l (.slice A n c)) (hlen : l.length * 9 ≤ 1048576) (hvi : I64 v.major ∧ I64 v.minor ∧ I64 v.patch) :
    Calls Tryz.prog 3 #[.slice A n c, verV v] w fun e w' => e = .returned (.bool true) ∧ Below w.heap.size w w' := by
  have H1 : Hid (∀ W, Below w.heap.size w W → Calls Tryz.prog 12 #[.slice A n c] W fun e w' => e = .returned (.bool (spansB l)) ∧ Below W.heap.size W w') := fun W hW => spanMay_any A n c l W _ (hl.belowSize hW)
  have H2 : Hid (∀ W, Below w.heap.size w W → Calls Tryz.prog 13 #[.slice A n c] W fun e w' => e = .returned (.bool (spansB l)) ∧ Below W.heap.size W w') := fun W hW => refSpanMay_any A n c l W _ (hl.belowSize hW)
  have H3 : Hid (∀ W, Below w.heap.size w W → Calls Tryz.prog 14 #[.slice A n c, verV v] W fun e w' => e = .returned (.bool (inSB l v)) ∧ Below W.heap.size W w') := fun W hW => spanIn_any A n c l v W _ (hl.belowSize hW)
  have H4 : Hid (∀ W, Below w.heap.size w W → Calls Tryz.prog 15 #[.slice A n c, verV v] W fun e w' => e = .returned (.bool (inSB l v)) ∧ Below W.heap.size W w') := fun W hW => refIn_any A n c l v W _ (hl.belowSize hW)
  have H5 : Hid (∀ W, Below w.heap.size w W → Calls Tryz.prog 16 #[] W fun e w' => e = .returned (.bool true) ∧ Below W.heap.size W w') := fun W hW => known_any W (hv.below hW)
  unfold verV at H3 H4 ⊢
  generalize spansB l = p at *
  generalize inSB l v = q at *
  obtain ⟨v1, v2, v3⟩ := v
  simp only at H3 H4 ⊢
  clear hv hl hlen hvi
  have hpp : (p == p) = true := by simp
  have hqq : (q == q) = true := by simp
  go_enter Tryz.func3, Tryz.ntmps3
  obtain ⟨w0, hw0⟩ : ∃ w0, w0 = w.alloc (.cells #[.int .i64 v1, .int .i64 v2, .int .i64 v3] 24) := ⟨_, rfl⟩
  have HB0 : Hid (Below w.heap.size w w0) := by unfold Hid; rw [hw0]; exact bal (Below.refl _ _) _
  have a0 : w0.cell? ⟨w.heap.size, 0, none⟩ = some (.int .i64 v1) := by rw [hw0]; simp [go_sem]
  have a1 : w0.cell? ⟨w.heap.size, 1, none⟩ = some (.int .i64 v2) := by rw [hw0]; simp [go_sem]
  have a2 : w0.cell? ⟨w.heap.size, 2, none⟩ = some (.int .i64 v3) := by rw [hw0]; simp [go_sem]
  have Hw0 := Lib.hid hw0
  clear hw0
  go_wp2_with fail
  rw [← Hw0.out]
  clear Hw0
  have Q1 := Lib.hid (qcall (w := w0) (fun W hW => H1.out W (bot HB0.out hW)))
  have Q2 := Lib.hid (qcall (w := w0) (fun W hW => H2.out W (bot HB0.out hW)))
  have Q3 := Lib.hid (qcall (w := w0) (fun W hW => H3.out W (bot HB0.out hW)))
  have Q4 := Lib.hid (qcall (w := w0) (fun W hW => H4.out W (bot HB0.out hW)))
  have Q5 := Lib.hid (qcall (w := w0) (fun W hW => H5.out W (bot HB0.out hW)))
  have r_a0 := cell_regrown a0
  have r_a1 := cell_regrown a1
  have r_a2 := cell_regrown a2
  go_wp2_with fail
  refine wp_region_qb (by kernel_rfl) (by kernel_rfl) ?_
  repeat (go_big_quiet_step (first | (with_reducible exact Q1.out _ _) | (with_reducible exact Q2.out _ _) | (with_reducible exact Q3.out _ _) | (with_reducible exact Q4.out _ _) | (with_reducible exact Q5.out _ _)))
  refine wpQuiet_nil ?_
  intro w1 B1
  go_wp2_with fail
  go_ret
  exact ⟨rfl, bot HB0.out B1⟩
end Go.Proofs.YtghihopmiagcpaaGreatDoor
