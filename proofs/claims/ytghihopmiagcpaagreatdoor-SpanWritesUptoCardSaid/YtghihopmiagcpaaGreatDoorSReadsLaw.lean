/-
  halyardlaw03.SpanReads and SpanWrites, walked.
-/
import Derived.Test.YtghihopmiagcpaaGreatDoorRefP
import Derived.Test.YtghihopmiagcpaaGreatDoorOver
set_option autoImplicit false
set_option relaxedAutoImplicit false
set_option linter.unusedVariables false
set_option linter.unusedSimpArgs false
namespace Go.Proofs.YtghihopmiagcpaaGreatDoor
open Go.Rows Go.RowKit Go.Shelf Go.Sort

set_option maxHeartbeats 2000000 in
set_option maxRecDepth 100000 in
theorem spanReads_law (t : ByteArray) (w : World) (hv : Vok w) (hs : t.size ≤ 1048576) :
    Calls Tryz.prog 4 #[.string t] w fun e w' => e = .returned (.bool true) ∧ Below w.heap.size w w' := by
  have Hv := Lib.hid hv
  have Hp := Lib.hid (spanParse_any t w hv (by omega))
  have Hr : Hid (∀ W, Calls Tryz.prog 18 #[.string t] W fun e w' => ∃ v, e = .returned (.tuple #[v, .int .i64 (parseQ t).2]) ∧ SlV rSpn w' (fun b => W.heap.size ≤ b) (parseQ t).1 v ∧ Below W.heap.size W w') := fun W => refParse_any t W (by omega)
  clear hv hs
  generalize parseQ t = Q at *
  obtain ⟨ql, qe⟩ := Q
  simp only at Hp Hr
  have hqe : (qe == qe) = true := by simp
  go_enter Tryz.func4, Tryz.ntmps4
  go_wp2_with fail
  refine Hp.out.mono ?_
  rintro e w1 ⟨v1, rfl, hv1, hb1⟩
  obtain ⟨A1, c1, rfl, _, _⟩ := hv1.val
  have HV1 := Lib.hid hv1
  have HB1 := Lib.hid hb1
  clear hv1 hb1 Hp
  generalize hn1 : ql.length = n1 at *
  have Hn1 := Lib.hid hn1
  clear hn1
  go_wp2_with fail
  refine (Hr.out _).mono ?_
  rintro e w2 ⟨v2, rfl, hv2, hb2⟩
  obtain ⟨A2, c2, rfl, _, _⟩ := hv2.val
  rw [Hn1.out] at hv2 ⊢
  have HV2 := Lib.hid hv2
  have HV1' := Lib.hid (HV1.out.belowSize hb2)
  have HB2 := Lib.hid (bot HB1.out hb2)
  clear hv2 hb2 Hr HV1
  go_wp2_with fail
  refine (same_yes _ _ _ _ _ _ ql w2 _ _ HV1'.out HV2.out).mono ?_
  rintro e w3 ⟨rfl, hb3⟩
  have HB3 := Lib.hid (bot HB2.out hb3)
  clear hb3
  go_wp2_with fail
  refine (known_any _ (Hv.out.below HB3.out)).mono ?_
  rintro e w4 ⟨rfl, hb4⟩
  go_wp2_with fail
  go_ret
  exact ⟨rfl, bot HB3.out hb4⟩

set_option maxHeartbeats 2000000 in
set_option maxRecDepth 100000 in
theorem spanWrites_law (A : Option Addr) (n c : Nat) (l : List Spn) (w : World) (hv : Vok w) (hl : SlV rSpn w (fun b => b < w.heap.size) l (.slice A n c)) (hlen : l.length * 9 ≤ 1048576) :
    Calls Tryz.prog 5 #[.slice A n c] w fun e w' => e = .returned (.bool true) ∧ Below w.heap.size w w' := by
  have Hv := Lib.hid hv
  have HL := Lib.hid hl
  have H1 : Hid (Calls Tryz.prog 20 #[.slice A n c] w fun e w' => e = .returned (.string (spansText l)) ∧ Below w.heap.size w w') := spanPrint_any A n c l w _ hv.tab hl
  have H2 : Hid (∀ W, Below w.heap.size w W → Calls Tryz.prog 21 #[.slice A n c] W fun e w' => e = .returned (.string (spansText l)) ∧ Below W.heap.size W w') := fun W hW => refSpanPrint_any A n c l W _ (hl.belowSize hW)
  have H3 : Hid (∀ W, Below w.heap.size w W → Calls Tryz.prog 13 #[.slice A n c] W fun e w' => e = .returned (.bool (spansB l)) ∧ Below W.heap.size W w') := fun W hW => refSpanMay_any A n c l W _ (hl.belowSize hW)
  have H4 : Hid (∀ W, Below w.heap.size w W → Calls Tryz.prog 17 #[.string (spansText l)] W fun e w' => ∃ v, e = .returned (.tuple #[v, .int .i64 (parseQ (spansText l)).2]) ∧ SlV rSpn w' (fun b => W.heap.size ≤ b) (parseQ (spansText l)).1 v ∧ Below W.heap.size W w') := fun W hW =>
    spanParse_any _ W (hv.below hW) (by have := spansText_le l; omega)
  have Hno : Hid (spansB l = false → (spansText l).toList = []) := fun h => by unfold spansText; rw [h, Go.ByteArray.toList_eq]; rfl
  have Hyes : Hid (spansB l = true → parseQ (spansText l) = (l, 0)) := fun h => parse_text h
  have hn := hl.n_eq
  have Hn := Lib.hid hn
  clear hv hl hlen hn
  generalize parseQ (spansText l) = Q at *
  generalize spansText l = s at *
  generalize spansB l = p at *
  have hss : (s.toList != s.toList) = false := by simp
  go_enter Tryz.func5, Tryz.ntmps5
  go_wp2_with fail
  refine H1.out.mono ?_
  rintro e w1 ⟨rfl, hb1⟩
  have HB1 := Lib.hid hb1
  clear hb1 H1
  go_wp2_with fail
  refine (H2.out _ HB1.out).mono ?_
  rintro e w2 ⟨rfl, hb2⟩
  have HB2 := Lib.hid (bot HB1.out hb2)
  clear hb2 H2
  go_wp2_with fail
  refine (known_any _ (Hv.out.below HB2.out)).mono ?_
  rintro e w3 ⟨rfl, hb3⟩
  have HB3 := Lib.hid (bot HB2.out hb3)
  clear hb3
  go_wp2_with fail
  refine (H3.out _ HB3.out).mono ?_
  rintro e w4 ⟨rfl, hb4⟩
  have HB4 := Lib.hid (bot HB3.out hb4)
  clear hb4 H3
  cases p with
  | false =>
    have hse : (s.toList == []) = true := by rw [Hno.out rfl]; rfl
    clear Hno Hyes
    go_wp2_with fail
    go_ret
    exact ⟨rfl, HB4.out⟩
  | true =>
    have hq := Hyes.out rfl
    subst hq
    clear Hno Hyes
    go_wp2_with fail
    refine (H4.out _ HB4.out).mono ?_
    rintro e w5 ⟨v5, rfl, hv5, hb5⟩
    obtain ⟨A5, c5, rfl, _, _⟩ := hv5.val
    have hl5 : l.length = n := Hn.out.symm
    rw [hl5] at hv5 ⊢
    have HV5 := Lib.hid hv5
    have HL5 := Lib.hid (HL.out.belowSize (bot HB4.out hb5))
    have HB5 := Lib.hid (bot HB4.out hb5)
    clear hv5 hb5 H4 hl5
    go_wp2_with fail
    refine (same_yes _ _ _ _ _ _ l w5 _ _ HL5.out HV5.out).mono ?_
    rintro e w6 ⟨rfl, hb6⟩
    go_wp2_with fail
    go_ret
    exact ⟨rfl, bot HB5.out hb6⟩
end Go.Proofs.YtghihopmiagcpaaGreatDoor
