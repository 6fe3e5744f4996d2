/-
  Ranges held against one another; the range of all; the range whose text is fixed: walked.
-/
import Derived.Test.YtldjldkejjeamaaGreatDoorSpanI
import Derived.Test.YtldjldkejjeamaaGreatDoorSame
set_option autoImplicit false
set_option relaxedAutoImplicit false
set_option linter.unusedVariables false
set_option linter.unusedSimpArgs false
namespace Go.Proofs.YtldjldkejjeamaaGreatDoor
open Go.Rows Go.RowKit Go.Shelf Go.Sort

def allS : List Spn := [⟨⟨0, 0, 0⟩, ⟨999, 999, 999⟩⟩]
set_option maxHeartbeats 800000 in
theorem refAll_any (w : World) : Calls Tryz.prog 56 #[] w fun e w' => ∃ v, e = .returned v ∧ SlV rSpn w' (fun b => w.heap.size ≤ b) allS v ∧ Below w.heap.size w w' := by
  have H1 := Lib.hid (fun W => refAt03_any 0 (by decide) (by decide) W)
  have H2 := Lib.hid (fun W => refAt03_any 999999999 (by decide) (by decide) W)
  go_enter Tryz.func56, Tryz.ntmps56
  go_wp2_with fail
  refine (H1.out _).mono ?_
  rintro e w1 ⟨rfl, hb1⟩
  have HB1 := Lib.hid hb1
  clear hb1
  go_wp2_with fail
  refine (H2.out _).mono ?_
  rintro e w2 ⟨rfl, hb2⟩
  have HB2 := Lib.hid (bot HB1.out hb2)
  have hz := HB2.out.size
  clear hb2
  go_wp2_with fail
  go_ret
  refine ⟨_, rfl, ?_, bal HB2.out _⟩
  exact SlV.of_block (g := w2.heap.size) (cs := #[.int .i64 0, .int .i64 0, .int .i64 0, .int .i64 999, .int .i64 999, .int .i64 999]) (heap_alloc_new w2 _) (Elems.one_ (r := rSpn) (x := ⟨⟨0, 0, 0⟩, ⟨999, 999, 999⟩⟩) (cs := [.int .i64 0, .int .i64 0, .int .i64 0, .int .i64 999, .int .i64 999, .int .i64 999]) ⟨rfl, by unfold I64; decide, by unfold I64; decide, by unfold I64; decide, by unfold I64; decide, by unfold I64; decide, by unfold I64; decide⟩) hz rfl (by simp [allS]) (by unfold maxLen; simp)
end Go.Proofs.YtldjldkejjeamaaGreatDoor
