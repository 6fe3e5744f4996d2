/-
  The law TreeSame, walked: true at every two trees.
-/
import Derived.Test.YtanipbpphbkmcaaDoorWithin
import Derived.Test.YtanipbpphbkmcaaDoorLives
set_option autoImplicit false
set_option relaxedAutoImplicit false
set_option linter.unusedVariables false
set_option linter.unusedSimpArgs false
namespace Go.Proofs.YtanipbpphbkmcaaDoor
open Go.Rows Go.RowKit Go.Shelf Go.Sort

set_option maxHeartbeats 1600000 in
set_option maxRecDepth 100000 in
theorem treeSameLaw_any (A B : Option Addr) (n c m e : Nat) (xs ys : List Dir) (w : World) (S T : Nat → Prop) (ht : Tab w) (hx : SlV rDir w S xs (.slice A n c)) (hy : SlV rDir w T ys (.slice B m e)) :
    Calls Tryd.prog 3 #[.agg #[.slice A n c], .agg #[.slice B m e]] w fun e w' => e = .returned (.bool true) ∧ Below w.heap.size w w' := by
  have H1 : Hid (∀ W, Below w.heap.size w W → Calls Tryd.prog 7 #[.agg #[.slice A n c], .agg #[.slice B m e]] W fun e w' => e = .returned (.bool (inB xs ys && inB ys xs)) ∧ Below W.heap.size W w') := fun W hW => refTreeSame_any _ _ _ _ _ _ _ _ _ _ _ (hx.belowSize hW) (hy.belowSize hW)
  have H2 : Hid (∀ W, Below w.heap.size w W → Calls Tryd.prog 8 #[.agg #[.slice A n c], .agg #[.slice B m e]] W fun e w' => e = .returned (.bool (inB xs ys && inB ys xs)) ∧ Below W.heap.size W w') := fun W hW => treeSame_any _ _ _ _ _ _ _ _ _ _ _ (hx.belowSize hW) (hy.belowSize hW)
  have H3 : Hid (∀ W, Below w.heap.size w W → Calls Tryd.prog 8 #[.agg #[.slice B m e], .agg #[.slice A n c]] W fun e w' => e = .returned (.bool (inB xs ys && inB ys xs)) ∧ Below W.heap.size W w') := fun W hW => by
    rw [Bool.and_comm]; exact treeSame_any _ _ _ _ _ _ _ _ _ _ _ (hy.belowSize hW) (hx.belowSize hW)
  have H4 : Hid (∀ W, Below w.heap.size w W → Calls Tryd.prog 8 #[.agg #[.slice A n c], .agg #[.slice A n c]] W fun e w' => e = .returned (.bool true) ∧ Below W.heap.size W w') := fun W hW => by
    have := treeSame_any _ _ _ _ _ _ _ _ _ _ _ (hx.belowSize hW) (hx.belowSize hW)
    rwa [inB_self, Bool.and_self] at this
  have H5 : Hid (∀ W, Below w.heap.size w W → Calls Tryd.prog 9 #[] W fun e w' => e = .returned (.bool true) ∧ Below W.heap.size W w') := fun W hW => lives_any W (tab_below ht hW)
  clear hx hy ht
  generalize (inB xs ys && inB ys xs) = v at *
  go_enter Tryd.func3, Tryd.ntmps3
  go_wp2_with fail
  obtain ⟨w0, hw0⟩ : ∃ w0, w0 = (w.alloc (.cells #[.slice A n c] 24)).alloc (.cells #[.slice B m e] 24) := ⟨_, rfl⟩
  have hz : w.heap.size < w0.heap.size := by rw [hw0]; simp [go_sem]
  have hz1 : w.heap.size + 1 < w0.heap.size := by rw [hw0]; simp [go_sem]
  have hb0 : Below w.heap.size w w0 := by rw [hw0]; exact bal (bal (Below.refl _ _) _) _
  have a0 : w0.cell? ⟨w.heap.size, 0, none⟩ = some (.slice A n c) := by rw [hw0]; simp [go_sem]
  have a1 : w0.cell? ⟨w.heap.size + 1, 0, none⟩ = some (.slice B m e) := by rw [hw0]; simp [go_sem]
  rw [← hw0]
  have HB0 := Lib.hid hb0; clear hb0 hw0
  refine (H1.out w0 HB0.out).mono ?_
  rintro e w1 ⟨rfl, B1⟩
  have Q1 := Lib.hid B1; clear B1
  have b0 := below_cell Q1.out a0 hz
  have b1 := below_cell Q1.out a1 hz1
  cases v <;> (
    go_wp2_with fail
    refine (H2.out w1 (bot HB0.out Q1.out)).mono ?_
    rintro e w2 ⟨rfl, B2⟩
    have Q2 := Lib.hid (bot Q1.out B2); clear B2 b0 b1
    have b0 := below_cell Q2.out a0 hz
    have b1 := below_cell Q2.out a1 hz1
    go_wp2_with fail
    refine (H3.out w2 (bot HB0.out Q2.out)).mono ?_
    rintro e w3 ⟨rfl, B3⟩
    have Q3 := Lib.hid (bot Q2.out B3); clear B3 b0 b1
    have b0 := below_cell Q3.out a0 hz
    have b1 := below_cell Q3.out a1 hz1
    go_wp2_with fail
    refine (H4.out w3 (bot HB0.out Q3.out)).mono ?_
    rintro e w4 ⟨rfl, B4⟩
    have Q4 := Lib.hid (bot Q3.out B4); clear B4 b0 b1
    go_wp2_with fail
    refine (H5.out w4 (bot HB0.out Q4.out)).mono ?_
    rintro e w5 ⟨rfl, B5⟩
    go_wp2_with fail
    go_ret
    exact ⟨rfl, bot (bot HB0.out Q4.out) B5⟩)
end Go.Proofs.YtanipbpphbkmcaaDoor
