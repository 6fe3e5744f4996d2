/-
  The law's look at a tree that may be and one that may not: lives.
-/
import Derived.Test.YtanipbpphbkmcaaGreatDoorSmall
set_option autoImplicit false
set_option relaxedAutoImplicit false
set_option linter.unusedVariables false
set_option linter.unusedSimpArgs false
namespace Go.Proofs.YtanipbpphbkmcaaGreatDoor
open Go.Rows Go.RowKit Go.Shelf Go.Sort

set_option maxHeartbeats 3200000 in
set_option maxRecDepth 100000 in
theorem lives_any (w : World) (ht : Tab w) : Calls Tryz.prog 12 #[] w fun e w' => e = .returned (.bool true) ∧ Below w.heap.size w w' := by
  have Ht := Lib.hid ht; clear ht
  go_enter Tryz.func12, Tryz.ntmps12
  go_wp2_with fail
  refine (small_any w).mono ?_
  rintro e w1 ⟨g, rfl, hsl, B1⟩
  have HS1 := Lib.hid hsl; clear hsl
  have HB1 := Lib.hid B1; clear B1
  go_wp2_with fail
  obtain ⟨w0, hw0⟩ : ∃ w0, w0 = w1.alloc (.cells #[.slice (some ⟨g, 0, none⟩) 2 2] 24) := ⟨_, rfl⟩
  have hz : w1.heap.size < w0.heap.size := by rw [hw0]; simp [go_sem]
  have HB0 : Hid (Below w.heap.size w w0) := by unfold Hid; rw [hw0]; exact bal HB1.out _
  have HS0 : Hid (SlV rDir w0 (fun _ => True) [zeroDir, aDir] (.slice (some ⟨g, 0, none⟩) 2 2)) := by unfold Hid; rw [hw0]; exact HS1.out.alloc _
  have a0 : w0.cell? ⟨w1.heap.size, 0, none⟩ = some (.slice (some ⟨g, 0, none⟩) 2 2) := by rw [hw0]; simp [go_sem]
  rw [← hw0]
  clear hw0 HB1 HS1
  have hlen : ∀ d ∈ [zeroDir, aDir], d.path.length * 32 ≤ 140737488355328 := by intro d hd; simp at hd; rcases hd with rfl | rfl <;> decide
  have Hck : Hid (Calls Tryz.prog 10 #[.agg #[.slice (some ⟨g, 0, none⟩) 2 2]] w0 fun e w' => e = .returned (.int .i64 0) ∧ Below w0.heap.size w0 w') := by
    have := check_any _ _ _ _ w0 _ (tab_below Ht.out HB0.out) hlen HS0.out
    rwa [check_small] at this
  refine Hck.out.mono ?_
  rintro e w2 ⟨rfl, B2⟩
  have Q2 := Lib.hid B2; clear B2 Hck
  go_wp2_with fail
  have Hcn : Hid (∀ W, Below w0.heap.size w0 W → Calls Tryz.prog 10 #[.agg #[.slice none 0 0]] W fun e w' => e = .returned (.int .i64 42) ∧ Below W.heap.size W w') := fun W hW => by
    have := check_any none 0 0 [] W (fun _ => True) (tab_below Ht.out (bot HB0.out hW)) (by simp) (SlV.nil_ _ _ _)
    rwa [check_none] at this
  refine (Hcn.out w2 Q2.out).mono ?_
  rintro e w3 ⟨rfl, B3⟩
  have Q3 := Lib.hid (bot Q2.out B3); clear B3 Hcn
  have b0 := below_cell Q3.out a0 hz
  go_wp2_with fail
  have Hfd : Hid (∀ t, Calls Tryz.prog 23 #[.agg #[.slice (some ⟨g, 0, none⟩) 2 2], .slice (some ⟨w3.heap.size, 0, none⟩) 1 1] (w3.alloc (.cells #[.string ⟨#[97]⟩] t)) fun e w' => e = .returned (.int .i64 1) ∧ Below (w3.alloc (.cells #[.string ⟨#[97]⟩] t)).heap.size (w3.alloc (.cells #[.string ⟨#[97]⟩] t)) w') := fun t => by
    have h1 : SlV rStr (w3.alloc (.cells #[.string ⟨#[97]⟩] t)) (fun _ => True) [aB] (.slice (some ⟨w3.heap.size, 0, none⟩) 1 1) :=
      SlV.of_block (heap_new _ _) (Elems.one_ (r := rStr) (x := aB) (cs := [.string ⟨#[97]⟩]) ⟨rfl, by decide⟩) trivial rfl (by decide) (by decide)
    have := find_any _ _ _ _ _ _ _ _ _ _ _ ((HS0.out.belowSize Q3.out).alloc (.cells #[.string ⟨#[97]⟩] t)) h1
    rwa [find_a] at this
  refine (Hfd.out _).mono ?_
  rintro e w4 ⟨rfl, B4⟩
  have Q4 := Lib.hid (bot Q3.out (bnew B4)); clear B4 Hfd b0
  go_wp2_with fail
  have Htx : Hid (∀ t, Calls Tryz.prog 34 #[.slice (some ⟨w4.heap.size, 0, none⟩) 2 2] (w4.alloc (.cells #[.string ⟨#[97]⟩, .string ⟨#[98]⟩] t)) fun e w' => e = .returned (.string ⟨#[47, 109, 111, 100, 117, 108, 101, 115, 47, 97, 47, 109, 111, 100, 117, 108, 101, 115, 47, 98]⟩) ∧ Below (w4.alloc (.cells #[.string ⟨#[97]⟩, .string ⟨#[98]⟩] t)).heap.size (w4.alloc (.cells #[.string ⟨#[97]⟩, .string ⟨#[98]⟩] t)) w') := fun t => by
    have hE : Elems rStr (w4.alloc (.cells #[.string ⟨#[97]⟩, .string ⟨#[98]⟩] t)) (fun b => b < (w4.alloc (.cells #[.string ⟨#[97]⟩, .string ⟨#[98]⟩] t)).heap.size) [aB, ⟨#[98]⟩] [.string ⟨#[97]⟩, .string ⟨#[98]⟩] := ⟨[.string ⟨#[97]⟩], [.string ⟨#[98]⟩], rfl, ⟨rfl, by decide⟩, [.string ⟨#[98]⟩], [], rfl, ⟨rfl, by decide⟩, rfl⟩
    have h1 : SlV rStr (w4.alloc (.cells #[.string ⟨#[97]⟩, .string ⟨#[98]⟩] t)) (fun b => b < (w4.alloc (.cells #[.string ⟨#[97]⟩, .string ⟨#[98]⟩] t)).heap.size) [aB, ⟨#[98]⟩] (.slice (some ⟨w4.heap.size, 0, none⟩) 2 2) :=
      SlV.of_block (heap_new _ _) hE (by rw [size_alloc]; omega) rfl (by decide) (by decide)
    have := treeText_any _ _ _ _ _ _ (fun b h => h) (by decide) h1
    rwa [text_ab] at this
  refine (Htx.out _).mono ?_
  rintro e w5 ⟨rfl, B5⟩
  have Q5 := Lib.hid (bot Q4.out (bnew B5)); clear B5 Htx
  have b0 := below_cell Q5.out a0 hz
  go_wp2_with fail
  have Hsm : Hid (Calls Tryz.prog 35 #[.agg #[.slice (some ⟨g, 0, none⟩) 2 2], .agg #[.slice (some ⟨g, 0, none⟩) 2 2]] w5 fun e w' => e = .returned (.bool true) ∧ Below w5.heap.size w5 w') := by
    have := treeSame_any _ _ _ _ _ _ _ _ w5 _ _ (HS0.out.belowSize Q5.out) (HS0.out.belowSize Q5.out)
    rwa [inB_self, Bool.and_self] at this
  refine Hsm.out.mono ?_
  rintro e w6 ⟨rfl, B6⟩
  go_wp2_with fail
  go_ret
  exact ⟨rfl, bot HB0.out (bot Q5.out B6)⟩
end Go.Proofs.YtanipbpphbkmcaaGreatDoor
