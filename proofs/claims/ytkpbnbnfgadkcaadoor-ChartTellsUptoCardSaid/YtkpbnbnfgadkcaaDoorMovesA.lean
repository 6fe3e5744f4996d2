/-
  A drawing held against the document's; a point that is known.
-/
import Derived.Test.YtkpbnbnfgadkcaaDoorRefC
import Derived.Test.YtkpbnbnfgadkcaaDoorNames
namespace Go.Proofs.YtkpbnbnfgadkcaaDoor
open Go.RowKit
set_option linter.unusedVariables false
set_option linter.unusedSimpArgs false

theorem known_any (w : World) : Calls Tryd.prog 11 #[] w fun e w' => e = .returned (.bool true) ∧ Below w.heap.size w w' := by
  have hT : ∀ path, Hid (twistR [⟨path, 2, 1⟩] 3 (-1) = some [⟨path, 7, 1⟩]) := fun path => by
    unfold Hid; simp [twistR, twistOk, mayB, farB, smallB, twistF]
  have hQ : ∀ path, Hid (turnR [⟨path, 2, 1⟩] (-1) = some [⟨path, 1, -2⟩]) := fun path => by
    have : quarters (-1) = 3 := by decide
    unfold Hid; simp [turnR, mayB, farB, turnF, twistF, this, quart]
  have h1 : ∀ W : World, SlV rStr (W.alloc (.cells #[.string ⟨#[97]⟩] 9)) (fun _ => True) [⟨#[97]⟩] (.slice (some ⟨W.heap.size, 0, none⟩) 1 1) := fun W =>
    SlV.of_block (heap_new W _) (Elems.one_ (r := rStr) (x := ⟨#[97]⟩) (cs := [.string ⟨#[97]⟩]) ⟨rfl, by decide⟩) trivial rfl (by decide) (by decide)
  have h2 : SlV rSpot ((w.alloc (.cells #[.string ⟨#[97]⟩] 9)).alloc (.cells #[.slice (some ⟨w.heap.size, 0, none⟩) 1 1, .int .i64 2, .int .i64 1] 44)) (fun _ => True) [⟨[⟨#[97]⟩], 2, 1⟩] (.slice (some ⟨w.heap.size + 1, 0, none⟩) 1 1) := by
    have := heap_new (w.alloc (.cells #[.string ⟨#[97]⟩] 9)) (.cells #[.slice (some ⟨w.heap.size, 0, none⟩) 1 1, .int .i64 2, .int .i64 1] 44)
    rw [show (w.alloc (.cells #[.string ⟨#[97]⟩] 9)).heap.size = w.heap.size + 1 from by simp] at this
    exact SlV.of_block this (Elems.one_ (r := rSpot) (x := ⟨[⟨#[97]⟩], 2, 1⟩) (cs := [.slice (some ⟨w.heap.size, 0, none⟩) 1 1, .int .i64 2, .int .i64 1]) ⟨_, rfl, (h1 w).alloc _, by unfold I64; decide, by unfold I64; decide⟩) trivial rfl (by decide) (by decide)
  have hb0 : Below w.heap.size w ((w.alloc (.cells #[.string ⟨#[97]⟩] 9)).alloc (.cells #[.slice (some ⟨w.heap.size, 0, none⟩) 1 1, .int .i64 2, .int .i64 1] 44)) :=
    ((Below.refl _ _).alloc (Nat.le_refl _) _).alloc (by simp) _
  have H2 := Lib.hid h2; clear h2
  clear h1
  go_enter Tryd.func11, Tryd.ntmps11
  go_wp2_with fail
  generalize (w.alloc (.cells #[.string ⟨#[97]⟩] 9)).alloc (.cells #[.slice (some ⟨w.heap.size, 0, none⟩) 1 1, .int .i64 2, .int .i64 1] 44) = w1 at *
  refine (chTwist_any _ 1 1 3 (-1) [⟨[⟨#[97]⟩], 2, 1⟩] w1 _ (by decide) (by simp) (by unfold I64; decide) (by unfold I64; decide) H2.out).mono ?_
  rintro e w2 ⟨v, rfl, hv, hb2⟩
  rw [(hT _).out] at hv
  obtain ⟨vA, vc, rfl, _, _⟩ := hv.val
  have hv' := hv
  obtain ⟨b, o, cs, rfl, _, hlt, hsp, hcell⟩ := hv'.elem (i := 0) rfl
  obtain ⟨p, rfl, hp, _, _⟩ := hsp
  have hc1 := hcell 1 _ rfl
  have hc2 := hcell 2 _ rfl
  simp [rSpot] at hc1 hc2
  clear hv hv' hcell hp
  have H3 := Lib.hid (H2.out.belowSize hb2)
  rw [(hT _).out]
  simp only [codeOf, Option.isSome_some, if_true, Option.getD_some, List.length_cons, List.length_nil, Nat.zero_add]
  go_wp2_with fail
  refine (chTurn_any _ 1 1 (-1) [⟨[⟨#[97]⟩], 2, 1⟩] w2 _ (by decide) (by simp) (by unfold I64; decide) H3.out).mono ?_
  rintro e w3 ⟨v, rfl, hv, hb3⟩
  rw [(hQ _).out] at hv
  obtain ⟨vA, vc, rfl, _, _⟩ := hv.val
  have hv' := hv
  obtain ⟨b', o', cs, rfl, _, hlt', hsp, hcell⟩ := hv'.elem (i := 0) rfl
  obtain ⟨p, rfl, hp, _, _⟩ := hsp
  have hd1 := hcell 1 _ rfl
  have hd2 := hcell 2 _ rfl
  simp [rSpot] at hd1 hd2
  clear hv hv' hcell hp
  rw [(hQ _).out]
  simp only [codeOf, Option.isSome_some, if_true, Option.getD_some, List.length_cons, List.length_nil, Nat.zero_add]
  have hc1' := below_cell hb3 hc1 hlt
  have hc2' := below_cell hb3 hc2 hlt
  go_wp2
  go_ret
  exact ⟨rfl, (hb0.trans (hb2.mono hb0.size)).trans (hb3.mono (Nat.le_trans hb0.size hb2.size))⟩
end Go.Proofs.YtkpbnbnfgadkcaaDoor
