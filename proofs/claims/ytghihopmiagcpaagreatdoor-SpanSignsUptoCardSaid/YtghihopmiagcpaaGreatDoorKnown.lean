/-
  halyardlaw03.known: the range whose text is fixed, walked.
-/
import Derived.Test.YtghihopmiagcpaaGreatDoorSpanQ
import Derived.Test.YtghihopmiagcpaaGreatDoorSpanT
import Derived.Test.YtghihopmiagcpaaGreatDoorSpanR
set_option autoImplicit false
set_option relaxedAutoImplicit false
set_option linter.unusedVariables false
set_option linter.unusedSimpArgs false
namespace Go.Proofs.YtghihopmiagcpaaGreatDoor
open Go.Rows Go.RowKit Go.Shelf Go.Sort

def knownS : List Spn := [⟨⟨1, 2, 3⟩, ⟨1, 999, 999⟩⟩]
theorem known_in : inSB knownS ⟨1, 9, 0⟩ = true := by
  unfold inSB
  have h1 : spansB knownS = true := by decide
  have h2 : (Ver.ok ⟨1, 9, 0⟩) = true := by decide
  rw [h1, h2, hasB_yes]
  · rfl
  · exact ⟨(1002003, 1999999), by decide, by decide, by decide⟩
theorem known_print : spansText knownS = ⟨#[62, 61, 49, 46, 50, 46, 51, 32, 60, 61, 49, 46, 57, 57, 57, 46, 57, 57, 57]⟩ := by decide +kernel

set_option maxHeartbeats 2000000 in
set_option maxRecDepth 100000 in
theorem known_any (w : World) (hv : Vok w) : Calls Tryz.prog 16 #[] w fun e w' => e = .returned (.bool true) ∧ Below w.heap.size w w' := by
  have Hv := Lib.hid hv
  have Hp := Lib.hid (spanParse_any ⟨#[94, 49, 46, 50, 46, 51]⟩ w hv (by decide))
  rw [known_text] at Hp
  simp only at Hp
  rw [show ([⟨⟨1, 2, 3⟩, ⟨1, 999, 999⟩⟩] : List Spn) = knownS from rfl] at Hp
  have Hi : Hid (∀ A n c W S, SlV rSpn W S knownS (.slice A n c) → Calls Tryz.prog 14 #[.slice A n c, .agg #[.int .i64 1, .int .i64 9, .int .i64 0]] W fun e w' => e = .returned (.bool true) ∧ Below W.heap.size W w') := fun A n c W S h => by
    have := spanIn_any A n c knownS ⟨1, 9, 0⟩ W S h
    rw [known_in] at this
    exact this
  have Hpr : Hid (∀ A n c W S, Vok W → SlV rSpn W S knownS (.slice A n c) → Calls Tryz.prog 20 #[.slice A n c] W fun e w' => e = .returned (.string ⟨#[62, 61, 49, 46, 50, 46, 51, 32, 60, 61, 49, 46, 57, 57, 57, 46, 57, 57, 57]⟩) ∧ Below W.heap.size W w') := fun A n c W S hW h => by
    have := spanPrint_any A n c knownS W S hW.tab h
    rw [known_print] at this
    exact this
  have Ha := Lib.hid (fun W => spanAll_any W)
  have Hr := Lib.hid (fun W => refAll_any W)
  have Hs : Hid (∀ A n c B m d W S T, SlV rSpn W S allS (.slice A n c) → SlV rSpn W T allS (.slice B m d) → Calls Tryz.prog 19 #[.slice A n c, .slice B m d] W fun e w' => e = .returned (.bool true) ∧ Below W.heap.size W w') := fun A n c B m d W S T h1 h2 => by
    have := same3_any A B n m c d allS allS W S T h1 h2
    rw [eqB_true rfl] at this
    exact this
  have hlen : knownS.length = 1 := rfl
  have HlA : Hid (allS.length = 1) := rfl
  clear hv
  go_enter Tryz.func16, Tryz.ntmps16
  go_wp2_with fail
  refine Hp.out.mono ?_
  rintro e w1 ⟨v, rfl, hv, hb1⟩
  obtain ⟨A1, c1, rfl, _, _⟩ := hv.val
  rw [hlen] at hv
  rw [hlen]
  have HV := Lib.hid (hv.more (S' := fun b => b < w1.heap.size) fun b _ h => h)
  have HB1 := Lib.hid hb1
  clear hv hb1 hlen
  go_wp2_with fail
  obtain ⟨w2, hw2⟩ : ∃ w2, w2 = w1.alloc (.cells #[.int .i64 1, .int .i64 9, .int .i64 0] 24) := ⟨_, rfl⟩
  have HV2 := Lib.hid (HV.out.alloc (.cells #[.int .i64 1, .int .i64 9, .int .i64 0] 24))
  have HB2 : Hid (Below w.heap.size w w2) := by unfold Hid; rw [hw2]; exact bal HB1.out _
  rw [← hw2] at HV2
  rw [← hw2]
  clear hw2
  refine (Hi.out A1 1 c1 w2 _ HV2.out).mono ?_
  rintro e w3 ⟨rfl, hb3⟩
  have HV3 := Lib.hid (HV2.out.belowSize hb3)
  have HB3 := Lib.hid (bot HB2.out hb3)
  clear hb3 HV2 Hi
  go_wp2_with fail
  refine (Hpr.out A1 1 c1 w3 _ (Hv.out.below HB3.out) HV3.out).mono ?_
  rintro e w4 ⟨rfl, hb4⟩
  have HB4 := Lib.hid (bot HB3.out hb4)
  clear hb4 Hpr HV3
  go_wp2_with fail
  refine (Ha.out w4).mono ?_
  rintro e w5 ⟨v5, rfl, hv5, hb5⟩
  obtain ⟨A5, c5, rfl, _, _⟩ := hv5.val
  have HV5 := Lib.hid hv5
  have HB5 := Lib.hid (bot HB4.out hb5)
  clear hv5 hb5 Ha HB4
  generalize allS.length = n5 at *
  go_wp2_with fail
  refine (Hr.out w5).mono ?_
  rintro e w6 ⟨v6, rfl, hv6, hb6⟩
  obtain ⟨A6, c6, rfl, _, _⟩ := hv6.val
  have HV5' := Lib.hid (HV5.out.belowSize hb6)
  have HV6 := Lib.hid hv6
  have HB6 := Lib.hid (bot HB5.out hb6)
  clear hv6 hb6 Hr HB5 HV5
  generalize allS.length = n6 at *
  go_wp2_with fail
  refine (Hs.out _ _ _ _ _ _ w6 _ _ HV5'.out HV6.out).mono ?_
  rintro e w7 ⟨rfl, hb7⟩
  have HB7 := Lib.hid (bot HB6.out hb7)
  clear hb7
  go_wp2_with fail
  go_ret
  exact ⟨rfl, HB7.out⟩
end Go.Proofs.YtghihopmiagcpaaGreatDoor
