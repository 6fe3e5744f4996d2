/-
  The statement's law: drawings are twisted, turned and flipped just as the document says: it answers true, and what was there stays.
-/
import Derived.Test.YtkpbnbnfgadkcaaMovesA
namespace Go.Proofs.Ytkpbnbnfgadkcaa
open Go.RowKit
set_option linter.unusedVariables false
set_option linter.unusedSimpArgs false

set_option maxHeartbeats 1000000 in
theorem moves_any (A : Option Addr) (n c : Nat) (a b : Int) (l : List Spot) (w : World) (S : Nat → Prop) (hreach : l.length * 40 ≤ 140737488351232)
    (hpath : ∀ s ∈ l, s.path.length * 16 ≤ 140737488351232) (ha : I64 a) (hb : I64 b) (hl : SlV rSpot w S l (.slice A n c)) :
    Calls Try.prog 3 #[.slice A n c, .int .i64 a, .int .i64 b] w fun e w' => e = .returned (.bool true) ∧ Below w.heap.size w w' := by
  have hnx := hl.n_eq
  have hn63 : n ≤ 9223372036854775807 := by omega
  have Hn := Lib.hid hnx
  clear hnx
  have Ha := Lib.hid ha; clear ha
  have Hb := Lib.hid hb; clear hb
  have Hl : Hid (∀ W, Below w.heap.size w W → SlV rSpot W (fun b => b < w.heap.size) l (.slice A n c)) := fun W hW => (hl.more (fun b _ h => h)).below hW (fun b h => h)
  clear hl
  go_enter Try.func3, Try.ntmps3
  go_wp2_with fail
  refine (given_any A n c l w _ hreach (Hl.out w (Below.refl _ _))).mono ?_
  rintro e w1 ⟨v1, rfl, hv1, hb1⟩
  obtain ⟨A1, c1, rfl, _, _⟩ := hv1.val
  have Hv1 := Lib.hid hv1; clear hv1
  go_wp2_with fail
  refine (chTwist_any _ _ _ a b l w1 _ hreach hpath Ha.out Hb.out Hv1.out).mono ?_
  rintro e w2 ⟨v2, rfl, hv2, hb2⟩
  obtain ⟨A2, c2, rfl, _, _⟩ := hv2.val
  have hB2 : Below w.heap.size w w2 := hb1.trans (hb2.mono hb1.size)
  have Hv2 := Lib.hid hv2; clear hv2
  clear hb2 hb1 Hv1
  go_wp2_with fail
  refine (refTwist_any A n c a b l w2 _ hreach (Hl.out w2 hB2)).mono ?_
  rintro e w3 ⟨v3, rfl, hv3, hb3⟩
  obtain ⟨A3, c3, rfl, hc3, hm3⟩ := hv3.val
  have hB3 : Below w.heap.size w w3 := hB2.trans (hb3.mono hB2.size)
  have Hs := Lib.hid (same_yes _ _ _ _ _ _ _ w3 _ _ (by unfold maxLen at hm3; omega) (Hv2.out.belowSize hb3) hv3)
  clear hv3 hb3 Hv2 hB2
  generalize ((twistR l a b).getD []).length = m1 at *
  go_wp2_with fail
  refine Hs.out.mono ?_
  rintro e w4 ⟨rfl, q, rfl⟩
  clear Hs
  have hB4 : Below w.heap.size w (w3.drewN q) := ⟨hB3.os, hB3.tape, hB3.output, hB3.size, hB3.block⟩
  generalize w3.drewN q = w4 at *
  clear hB3 hc3 hm3
  go_wp2_with fail
  refine (given_any A n c l w4 _ hreach (Hl.out w4 hB4)).mono ?_
  rintro e w1 ⟨v1, rfl, hv1, hb1⟩
  have hB1 : Below w.heap.size w w1 := hB4.trans (hb1.mono hB4.size)
  obtain ⟨A1, c1, rfl, _, _⟩ := hv1.val
  have Hv1 := Lib.hid hv1; clear hv1
  clear hb1 hB4
  go_wp2_with fail
  refine (chTurn_any _ _ _ a l w1 _ hreach hpath Ha.out Hv1.out).mono ?_
  rintro e w2 ⟨v2, rfl, hv2, hb2⟩
  obtain ⟨A2, c2, rfl, _, _⟩ := hv2.val
  have hB2 : Below w.heap.size w w2 := hB1.trans (hb2.mono hB1.size)
  have Hv2 := Lib.hid hv2; clear hv2
  clear hb2 hB1 Hv1
  go_wp2_with fail
  refine (refTurn_any A n c a l w2 _ hreach Ha.out (Hl.out w2 hB2)).mono ?_
  rintro e w3 ⟨v3, rfl, hv3, hb3⟩
  obtain ⟨A3, c3, rfl, hc3, hm3⟩ := hv3.val
  have hB3 : Below w.heap.size w w3 := hB2.trans (hb3.mono hB2.size)
  have Hs := Lib.hid (same_yes _ _ _ _ _ _ _ w3 _ _ (by unfold maxLen at hm3; omega) (Hv2.out.belowSize hb3) hv3)
  clear hv3 hb3 Hv2 hB2
  generalize ((turnR l a).getD []).length = m2 at *
  go_wp2_with fail
  refine Hs.out.mono ?_
  rintro e w4' ⟨rfl, q, rfl⟩
  clear Hs
  have hB4 : Below w.heap.size w (w3.drewN q) := ⟨hB3.os, hB3.tape, hB3.output, hB3.size, hB3.block⟩
  generalize w3.drewN q = w4 at *
  clear hB3 hc3 hm3
  go_wp2_with fail
  refine (given_any A n c l w4 _ hreach (Hl.out w4 hB4)).mono ?_
  rintro e w1 ⟨v1, rfl, hv1, hb1⟩
  have hB1 : Below w.heap.size w w1 := hB4.trans (hb1.mono hB4.size)
  obtain ⟨A1, c1, rfl, _, _⟩ := hv1.val
  have Hv1 := Lib.hid hv1; clear hv1
  clear hb1 hB4
  go_wp2_with fail
  refine (chFlip_any _ _ _ l w1 _ hreach hpath Hv1.out).mono ?_
  rintro e w2 ⟨v2, rfl, hv2, hb2⟩
  obtain ⟨A2, c2, rfl, _, _⟩ := hv2.val
  have hB2 : Below w.heap.size w w2 := hB1.trans (hb2.mono hB1.size)
  have Hv2 := Lib.hid hv2; clear hv2
  clear hb2 hB1 Hv1
  go_wp2_with fail
  refine (refFlip_any A n c l w2 _ hreach (Hl.out w2 hB2)).mono ?_
  rintro e w3 ⟨v3, rfl, hv3, hb3⟩
  obtain ⟨A3, c3, rfl, hc3, hm3⟩ := hv3.val
  have hB3 : Below w.heap.size w w3 := hB2.trans (hb3.mono hB2.size)
  have Hs := Lib.hid (same_yes _ _ _ _ _ _ _ w3 _ _ (by unfold maxLen at hm3; omega) (Hv2.out.belowSize hb3) hv3)
  clear hv3 hb3 Hv2 hB2
  generalize ((flipR l).getD []).length = m3 at *
  go_wp2_with fail
  refine Hs.out.mono ?_
  rintro e w4' ⟨rfl, q, rfl⟩
  clear Hs
  have hB4 : Below w.heap.size w (w3.drewN q) := ⟨hB3.os, hB3.tape, hB3.output, hB3.size, hB3.block⟩
  generalize w3.drewN q = w4 at *
  clear hB3 hc3 hm3
  go_wp2_with fail
  refine (known_any w4).mono ?_
  rintro e w5 ⟨rfl, hb5⟩
  go_wp2
  go_ret
  exact ⟨rfl, hB4.trans (hb5.mono hB4.size)⟩
end Go.Proofs.Ytkpbnbnfgadkcaa
