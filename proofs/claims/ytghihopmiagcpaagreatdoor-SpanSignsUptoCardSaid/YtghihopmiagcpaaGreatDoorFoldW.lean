/-
  span.Meet, Join, Cut, and where the document tries all places: walked.
-/
import Derived.Test.YtghihopmiagcpaaGreatDoorFoldP
import Derived.Test.YtghihopmiagcpaaGreatDoorSpanH
import Derived.Test.YtghihopmiagcpaaGreatDoorSpanL
import Derived.Test.YtghihopmiagcpaaGreatDoorIRow
set_option autoImplicit false
set_option relaxedAutoImplicit false
set_option linter.unusedVariables false
set_option linter.unusedSimpArgs false
namespace Go.Proofs.YtghihopmiagcpaaGreatDoor
open Go.Rows Go.RowKit Go.Shelf Go.Sort

theorem others_len : ∀ (l : List Rk) (f : Int), (othersF f l).length ≤ l.length + 1 := by
  intro l
  induction l with
  | nil => intro f; rw [othersF]; split <;> simp
  | cons x l ih =>
    intro f
    rw [othersF, List.length_append, List.length_cons]
    have := ih (x.2 + 1)
    have h1 : (if f < x.1 then [((f, x.1 - 1) : Rk)] else []).length ≤ 1 := by split <;> simp
    omega
theorem in0_r {l : List Rk} (h : In0 l) : ∀ x ∈ l, 0 ≤ x.1 ∧ x.1 ≤ 999999999 ∧ 0 ≤ x.2 ∧ x.2 ≤ 999999999 := fun x hx => by
  have := h x hx; unfold lastR at this; omega

/-- the contract of each of the three: a list of the call's own -/
def Made (w : World) (q : List Spn × Int) (e : Ending) (w' : World) : Prop :=
  ∃ v, e = .returned (.tuple #[v, .int .i64 q.2]) ∧ Own rSpn w' w.heap.size 47 v q.1 (fun _ => False) ∧ Below w.heap.size w w'
theorem made_none (w w' : World) (h : Below w.heap.size w w') : Made w ([], 21) (.returned (.tuple #[.slice none 0 0, .int .i64 21])) w' :=
  ⟨_, rfl, Own.nil_ _ _ _ _ (fun b hb => hb.elim), h⟩
set_option maxHeartbeats 2000000 in
set_option maxRecDepth 100000 in
theorem meet_any (A B : Option Addr) (n m c d : Nat) (a b : List Spn) (w : World) (S T : Nat → Prop) (hx : SlV rSpn w S a (.slice A n c)) (hy : SlV rSpn w T b (.slice B m d)) :
    Calls Tryz.prog 26 #[.slice A n c, .slice B m d] w (Made w (foldQ 109 a b)) := by
  have HX := Lib.hid (hx.more (S' := fun b => b < w.heap.size) fun b _ h => h)
  have HY := Lib.hid (hy.more (S' := fun b => b < w.heap.size) fun b _ h => h)
  have H1 : Hid (∀ W, Below w.heap.size w W → Calls Tryz.prog 12 #[.slice A n c] W fun e w' => e = .returned (.bool (spansB a)) ∧ Below W.heap.size W w') := fun W hW => spanMay_any A n c a W _ (HX.out.belowSize hW)
  have H2 : Hid (∀ W, Below w.heap.size w W → Calls Tryz.prog 12 #[.slice B m d] W fun e w' => e = .returned (.bool (spansB b)) ∧ Below W.heap.size W w') := fun W hW => spanMay_any B m d b W _ (HY.out.belowSize hW)
  have Hno : Hid ((spansB a && spansB b) = false → foldQ 109 a b = ([], 21)) := fun h => foldQ_no h
  have Hyes : Hid (spansB a = true → spansB b = true → foldQ 109 a b = fitR (metF (rks a) (rks b)) ∧ a.length ≤ 64 ∧ b.length ≤ 64 ∧ In0 (metF (rks a) (rks b))) := fun ha hb => by
    have e := met_folded (spans_in0 ha) (spans_in0 hb) (spans_nrm ha) (spans_nrm hb)
    refine ⟨?_, (spansB_ok ha).1, (spansB_ok hb).1, ?_⟩
    · rw [e]; exact foldQ_yes ha hb
    · rw [e]; exact foldedF_in0 109 (spans_in0 ha) (spans_in0 hb)
  clear hx hy
  generalize foldQ 109 a b = Q at *
  generalize spansB a = p at *
  generalize spansB b = q at *
  go_enter Tryz.func26, Tryz.ntmps26
  go_wp2_with fail
  refine (H1.out _ (Below.refl _ _)).mono ?_
  rintro e w1 ⟨rfl, hb1⟩
  have HB1 := Lib.hid hb1
  clear hb1
  cases p with
  | false =>
    have hq := Hno.out (by simp)
    subst hq
    go_wp2_with fail
    go_ret2
    exact made_none w _ HB1.out
  | true =>
  go_wp2_with fail
  refine (H2.out _ HB1.out).mono ?_
  rintro e w2 ⟨rfl, hb2⟩
  have HB2 := Lib.hid (bot HB1.out hb2)
  clear hb2
  cases q with
  | false =>
    have hq := Hno.out (by simp)
    subst hq
    go_wp2_with fail
    go_ret2
    exact made_none w _ HB2.out
  | true =>
  obtain ⟨hQ, hla, hlb, hin⟩ := Hyes.out (by simp) (by simp)
  subst hQ
  have Hla := Lib.hid hla
  have Hlb := Lib.hid hlb
  have Hin := Lib.hid hin
  clear hla hlb hin Hno Hyes
  go_wp2_with fail
  refine (numbers_any A n c a _ _ (by have := Hla.out; omega) (HX.out.belowSize HB2.out)).mono ?_
  rintro e w3 ⟨v1, rfl, hv1, hb3⟩
  obtain ⟨A1, c1, rfl, _, _⟩ := hv1.val
  rw [List.length_map] at hv1 ⊢
  have HV1 := Lib.hid hv1
  have HB3 := Lib.hid (bot HB2.out hb3)
  clear hv1 hb3
  go_wp2_with fail
  refine (numbers_any B m d b _ _ (by have := Hlb.out; omega) (HY.out.belowSize HB3.out)).mono ?_
  rintro e w4 ⟨v2, rfl, hv2, hb4⟩
  obtain ⟨A2, c2, rfl, _, _⟩ := hv2.val
  rw [List.length_map] at hv2 ⊢
  have HV2 := Lib.hid hv2
  have HV1' := Lib.hid (HV1.out.belowSize hb4)
  have HB4 := Lib.hid (bot HB3.out hb4)
  clear hv2 hb4 HV1
  go_wp2_with fail
  refine (met_any A1 A2 _ _ c1 c2 (rks a) (rks b) w4 _ _ (by rw [rks_len]; have := Hla.out; omega) (by rw [rks_len]; have := Hlb.out; omega) HV1'.out HV2.out).mono ?_
  rintro e w5 ⟨v3, rfl, hv3, hb5⟩
  obtain ⟨A3, c3, rfl, _, _⟩ := hv3.val
  have HV3 := Lib.hid hv3
  have HB5 := Lib.hid (bot HB4.out hb5)
  clear hv3 hb5 HV1' HV2
  go_wp2_with fail
  refine (fitO_any A3 _ c3 _ w5 _ (in0_r Hin.out) HV3.out).mono ?_
  rintro e w6 ⟨v4, rfl, hv4, hb6⟩
  have Hv4 := Lib.hid (hv4.lower HB5.out.size)
  have HB6 := Lib.hid (bot HB5.out hb6)
  clear hv4 hb6
  go_wp2_with fail
  go_ret2
  exact ⟨v4, rfl, Hv4.out, HB6.out⟩

set_option maxHeartbeats 2000000 in
set_option maxRecDepth 100000 in
theorem cut_any (A B : Option Addr) (n m c d : Nat) (a b : List Spn) (w : World) (S T : Nat → Prop) (hx : SlV rSpn w S a (.slice A n c)) (hy : SlV rSpn w T b (.slice B m d)) :
    Calls Tryz.prog 29 #[.slice A n c, .slice B m d] w (Made w (foldQ 99 a b)) := by
  have HX := Lib.hid (hx.more (S' := fun b => b < w.heap.size) fun b _ h => h)
  have HY := Lib.hid (hy.more (S' := fun b => b < w.heap.size) fun b _ h => h)
  have H1 : Hid (∀ W, Below w.heap.size w W → Calls Tryz.prog 12 #[.slice A n c] W fun e w' => e = .returned (.bool (spansB a)) ∧ Below W.heap.size W w') := fun W hW => spanMay_any A n c a W _ (HX.out.belowSize hW)
  have H2 : Hid (∀ W, Below w.heap.size w W → Calls Tryz.prog 12 #[.slice B m d] W fun e w' => e = .returned (.bool (spansB b)) ∧ Below W.heap.size W w') := fun W hW => spanMay_any B m d b W _ (HY.out.belowSize hW)
  have Hno : Hid ((spansB a && spansB b) = false → foldQ 99 a b = ([], 21)) := fun h => foldQ_no h
  have Hyes : Hid (spansB a = true → spansB b = true → foldQ 99 a b = fitR (metF (rks a) (othersF 0 (rks b))) ∧ a.length ≤ 64 ∧ b.length ≤ 64 ∧ In0 (metF (rks a) (othersF 0 (rks b))) ∧ In0 (rks b)) := fun ha hb => by
    have e := cut_folded (spans_in0 ha) (spans_in0 hb) (spans_nrm ha) (spans_nrm hb)
    refine ⟨?_, (spansB_ok ha).1, (spansB_ok hb).1, ?_, spans_in0 hb⟩
    · rw [e]; exact foldQ_yes ha hb
    · rw [e]; exact foldedF_in0 99 (spans_in0 ha) (spans_in0 hb)
  clear hx hy
  generalize foldQ 99 a b = Q at *
  generalize spansB a = p at *
  generalize spansB b = q at *
  go_enter Tryz.func29, Tryz.ntmps29
  go_wp2_with fail
  refine (H1.out _ (Below.refl _ _)).mono ?_
  rintro e w1 ⟨rfl, hb1⟩
  have HB1 := Lib.hid hb1
  clear hb1
  cases p with
  | false =>
    have hq := Hno.out (by simp)
    subst hq
    go_wp2_with fail
    go_ret2
    exact made_none w _ HB1.out
  | true =>
  go_wp2_with fail
  refine (H2.out _ HB1.out).mono ?_
  rintro e w2 ⟨rfl, hb2⟩
  have HB2 := Lib.hid (bot HB1.out hb2)
  clear hb2
  cases q with
  | false =>
    have hq := Hno.out (by simp)
    subst hq
    go_wp2_with fail
    go_ret2
    exact made_none w _ HB2.out
  | true =>
  obtain ⟨hQ, hla, hlb, hin, hib⟩ := Hyes.out (by simp) (by simp)
  subst hQ
  have Hla := Lib.hid hla
  have Hlb := Lib.hid hlb
  have Hin := Lib.hid hin
  have Hib := Lib.hid hib
  clear hla hlb hin Hno Hyes hib
  go_wp2_with fail
  refine (numbers_any A n c a _ _ (by have := Hla.out; omega) (HX.out.belowSize HB2.out)).mono ?_
  rintro e w3 ⟨v1, rfl, hv1, hb3⟩
  obtain ⟨A1, c1, rfl, _, _⟩ := hv1.val
  rw [List.length_map] at hv1 ⊢
  have HV1 := Lib.hid hv1
  have HB3 := Lib.hid (bot HB2.out hb3)
  clear hv1 hb3
  go_wp2_with fail
  refine (numbers_any B m d b _ _ (by have := Hlb.out; omega) (HY.out.belowSize HB3.out)).mono ?_
  rintro e w4 ⟨v2, rfl, hv2, hb4⟩
  obtain ⟨A2, c2, rfl, _, _⟩ := hv2.val
  rw [List.length_map] at hv2 ⊢
  have HV2 := Lib.hid hv2
  have HV1' := Lib.hid (HV1.out.belowSize hb4)
  have HB4 := Lib.hid (bot HB3.out hb4)
  clear hv2 hb4 HV1
  go_wp2_with fail
  refine (others_any A2 _ c2 (rks b) w4 _ (by rw [rks_len]; have := Hlb.out; omega) (in0_r Hib.out) HV2.out).mono ?_
  rintro e w5 ⟨v3, rfl, hv3, hb5⟩
  obtain ⟨A3, c3, rfl, _, _⟩ := hv3.val
  have HV3 := Lib.hid hv3
  have HV1 := Lib.hid (HV1'.out.belowSize hb5)
  have HB5 := Lib.hid (bot HB4.out hb5)
  clear hv3 hb5 HV1' HV2
  go_wp2_with fail
  refine (met_any A1 A3 _ _ c1 c3 (rks a) (othersF 0 (rks b)) w5 _ _ (by rw [rks_len]; have := Hla.out; omega) (by have := others_len (rks b) 0; rw [rks_len] at this; have := Hlb.out; omega) HV1.out HV3.out).mono ?_
  rintro e w6 ⟨v4, rfl, hv4, hb6⟩
  obtain ⟨A4, c4, rfl, _, _⟩ := hv4.val
  have HV4 := Lib.hid hv4
  have HB6 := Lib.hid (bot HB5.out hb6)
  clear hv4 hb6 HV1 HV3
  go_wp2_with fail
  refine (fitO_any A4 _ c4 _ w6 _ (in0_r Hin.out) HV4.out).mono ?_
  rintro e w7 ⟨v5, rfl, hv5, hb7⟩
  have Hv5 := Lib.hid (hv5.lower HB6.out.size)
  have HB7 := Lib.hid (bot HB6.out hb7)
  clear hv5 hb7
  go_wp2_with fail
  go_ret2
  exact ⟨v5, rfl, Hv5.out, HB7.out⟩

set_option maxHeartbeats 2000000 in
set_option maxRecDepth 100000 in
theorem join2_any (A B : Option Addr) (n m c d : Nat) (a b : List Spn) (w : World) (S T : Nat → Prop) (hx : SlV rSpn w S a (.slice A n c)) (hy : SlV rSpn w T b (.slice B m d)) :
    Calls Tryz.prog 25 #[.slice A n c, .slice B m d] w (Made w (foldQ 106 a b)) := by
  have HX := Lib.hid (hx.more (S' := fun b => b < w.heap.size) fun b _ h => h)
  have HY := Lib.hid (hy.more (S' := fun b => b < w.heap.size) fun b _ h => h)
  have H1 : Hid (∀ W, Below w.heap.size w W → Calls Tryz.prog 12 #[.slice A n c] W fun e w' => e = .returned (.bool (spansB a)) ∧ Below W.heap.size W w') := fun W hW => spanMay_any A n c a W _ (HX.out.belowSize hW)
  have H2 : Hid (∀ W, Below w.heap.size w W → Calls Tryz.prog 12 #[.slice B m d] W fun e w' => e = .returned (.bool (spansB b)) ∧ Below W.heap.size W w') := fun W hW => spanMay_any B m d b W _ (HY.out.belowSize hW)
  have Hno : Hid ((spansB a && spansB b) = false → foldQ 106 a b = ([], 21)) := fun h => foldQ_no h
  have Hyes : Hid (spansB a = true → spansB b = true → foldQ 106 a b = fitR (canon (Has (rks a ++ rks b))) ∧ a.length ≤ 64 ∧ b.length ≤ 64 ∧ In0 (rks a ++ rks b) ∧ In0 (canon (Has (rks a ++ rks b)))) := fun ha hb => by
    have e := joined_folded (spans_in0 ha) (spans_in0 hb)
    have hi : In0 (rks a ++ rks b) := fun x hx => by
      rcases List.mem_append.1 hx with h | h
      · exact spans_in0 ha x h
      · exact spans_in0 hb x h
    refine ⟨?_, (spansB_ok ha).1, (spansB_ok hb).1, hi, canon_in0 hi⟩
    rw [e]; exact foldQ_yes ha hb
  clear hx hy
  generalize foldQ 106 a b = Q at *
  generalize spansB a = p at *
  generalize spansB b = q at *
  go_enter Tryz.func25, Tryz.ntmps25
  go_wp2_with fail
  refine (H1.out _ (Below.refl _ _)).mono ?_
  rintro e w1 ⟨rfl, hb1⟩
  have HB1 := Lib.hid hb1
  clear hb1
  cases p with
  | false =>
    have hq := Hno.out (by simp)
    subst hq
    go_wp2_with fail
    go_ret2
    exact made_none w _ HB1.out
  | true =>
  go_wp2_with fail
  refine (H2.out _ HB1.out).mono ?_
  rintro e w2 ⟨rfl, hb2⟩
  have HB2 := Lib.hid (bot HB1.out hb2)
  clear hb2
  cases q with
  | false =>
    have hq := Hno.out (by simp)
    subst hq
    go_wp2_with fail
    go_ret2
    exact made_none w _ HB2.out
  | true =>
  obtain ⟨hQ, hla, hlb, hin, hic⟩ := Hyes.out (by simp) (by simp)
  subst hQ
  have Hla := Lib.hid hla
  have Hlb := Lib.hid hlb
  have Hin := Lib.hid hin
  have Hic := Lib.hid hic
  clear hla hlb hin Hno Hyes hic
  go_wp2_with fail
  refine (numbersO_any A n c a _ _ (by have := Hla.out; omega) (HX.out.belowSize HB2.out)).mono ?_
  rintro e w3 ⟨v1, rfl, hv1, hb3⟩
  have Hlt1 : Hid (∀ k, v1.ownBlock = some k → k < w3.heap.size) := fun k hk => (hv1.lt k hk).2
  have HV1 := Lib.hid hv1
  have HB3 := Lib.hid (bot HB2.out hb3)
  clear hv1 hb3
  go_wp2_with fail
  refine (numbers_any B m d b _ _ (by have := Hlb.out; omega) (HY.out.belowSize HB3.out)).mono ?_
  rintro e w4 ⟨v2, rfl, hv2, hb4⟩
  obtain ⟨A2, c2, rfl, _, _⟩ := hv2.val
  rw [List.length_map] at hv2 ⊢
  have HV2 := Lib.hid hv2
  have HV1' := Lib.hid ((HV1.out.keep hb4).lower HB2.out.size)
  have HB4 := Lib.hid (bot HB3.out hb4)
  clear hv2 hb4 HV1
  have hz4 := HB4.out.size
  go_wp2_with (at_builtin; refine wpList_extend (by rfl) _ _ _ (by rfl) elt_rnk Tryz.underlying54 (by rfl) HV1'.out (fun b => w3.heap.size ≤ b) (rks b) _ _ _ (by rfl) HV2.out (by intro k hk he; have := Hlt1.out k he; omega) (by simp only [rks_len, List.length_map]; have := Hla.out; have := Hlb.out; unfold maxLen; omega) (by simp only [rks_len, List.length_map]; have := Hla.out; have := Hlb.out; omega) hz4 ?_)
  intro v5 w5 hown5 hgrow5 hat5
  have HB5 := Lib.hid (bgrown HB4.out hgrow5 HV1'.out (Nat.le_refl _))
  have hs5 : SlV rRnk w5 (fun b => b < w5.heap.size) (rks a ++ rks b) v5 := hown5.slv.more (S' := fun b => b < w5.heap.size) fun b _ hl => hl
  obtain ⟨A5, c5, rfl, _, _⟩ := hs5.val
  obtain ⟨z5, hz5⟩ : ∃ z5, z5 = (rks a ++ rks b).length := ⟨_, rfl⟩
  rw [← hz5] at hs5 ⊢
  have HS5 := Lib.hid hs5
  clear hown5 hgrow5 hat5 hs5 HV1' HV2 Hlt1 hz4 hz5
  go_wp2_with fail
  refine (joined_any A5 z5 c5 (rks a ++ rks b) w5 HS5.out Hin.out (by simp only [List.length_append, rks_len]; have := Hla.out; have := Hlb.out; omega)).mono ?_
  rintro e w6 ⟨v6, rfl, hv6, hb6⟩
  obtain ⟨A6, c6, rfl, _, _⟩ := hv6.val
  have HV6 := Lib.hid hv6
  have HB6 := Lib.hid (bot HB5.out hb6)
  clear hv6 hb6 HS5
  go_wp2_with fail
  refine (fitO_any A6 _ c6 _ w6 _ (in0_r Hic.out) HV6.out).mono ?_
  rintro e w7 ⟨v7, rfl, hv7, hb7⟩
  have Hv7 := Lib.hid (hv7.lower HB6.out.size)
  have HB7 := Lib.hid (bot HB6.out hb7)
  clear hv7 hb7
  go_wp2_with fail
  go_ret2
  exact ⟨v7, rfl, Hv7.out, HB7.out⟩
end Go.Proofs.YtghihopmiagcpaaGreatDoor
