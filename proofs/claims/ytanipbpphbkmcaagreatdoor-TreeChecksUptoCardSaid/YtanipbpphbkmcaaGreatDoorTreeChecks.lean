/-
  The law TreeChecks, walked: true at every tree.
-/
import Derived.Test.YtanipbpphbkmcaaGreatDoorLives
set_option autoImplicit false
set_option relaxedAutoImplicit false
set_option linter.unusedVariables false
set_option linter.unusedSimpArgs false
namespace Go.Proofs.YtanipbpphbkmcaaGreatDoor
open Go.Rows Go.RowKit Go.Shelf Go.Sort

set_option maxHeartbeats 1600000 in
set_option maxRecDepth 100000 in
theorem treeChecks_any (A : Option Addr) (n c : Nat) (xs : List Dir) (w : World) (S : Nat → Prop) (ht : Tab w) (hlen : ∀ d ∈ xs, d.path.length * 32 ≤ 140737488355328) (hx : SlV rDir w S xs (.slice A n c)) :
    Calls Tryz.prog 3 #[.agg #[.slice A n c]] w fun e w' => e = .returned (.bool true) ∧ Below w.heap.size w w' := by
  have H1 : Hid (∀ o : Obj, ∀ d os, Calls Tryz.prog 10 #[.agg #[.slice A n c]] (grow (redrawn (w.alloc o) d) os) fun e w'' => e = .returned (.int .i64 (checkE xs)) ∧ ∃ p : Regrown, w'' = grow (redrawn (w.alloc o) p.d) p.os) :=
    fun o => qcall (w := w.alloc o) (fun W hW => check_any A n c xs W _ (tab_below (tab_below ht (bal (Below.refl _ _) o)) hW) hlen ((hx.alloc o).belowSize hW))
  have H2 : Hid (∀ o : Obj, ∀ d os, Calls Tryz.prog 11 #[.agg #[.slice A n c]] (grow (redrawn (w.alloc o) d) os) fun e w'' => e = .returned (.int .i64 (checkE xs)) ∧ ∃ p : Regrown, w'' = grow (redrawn (w.alloc o) p.d) p.os) :=
    fun o => qcall (w := w.alloc o) (fun W hW => refCheck_any A n c xs W _ hlen ((hx.alloc o).belowSize hW))
  have H3 : Hid (∀ o : Obj, ∀ d os, Calls Tryz.prog 12 #[] (grow (redrawn (w.alloc o) d) os) fun e w'' => e = .returned (.bool true) ∧ ∃ p : Regrown, w'' = grow (redrawn (w.alloc o) p.d) p.os) :=
    fun o => qcall (w := w.alloc o) (fun W hW => lives_any W (tab_below (tab_below ht (bal (Below.refl _ _) o)) hW))
  clear hx hlen ht
  generalize checkE xs = R at *
  go_enter Tryz.func3, Tryz.ntmps3
  go_wp2_with fail
  have a0 : (w.alloc (.cells #[.slice A n c] 24)).cell? ⟨w.heap.size, 0, none⟩ = some (.slice A n c) := by simp [go_sem]
  have r_a0 := cell_regrown a0
  refine wp_region_qb (by kernel_rfl) (by kernel_rfl) ?_
  repeat (go_big_quiet_step (first | (with_reducible exact H1.out _ _ _) | (with_reducible exact H2.out _ _ _) | (with_reducible exact H3.out _ _ _)))
  refine wpQuiet_nil ?_
  intro w1 B1
  go_wp2_with fail
  go_ret
  exact ⟨rfl, bnew B1⟩
end Go.Proofs.YtanipbpphbkmcaaGreatDoor
