/-
  halyardlaw03.SpanPoints, walked.
-/
import Derived.Test.YtghihopmiagcpaaGreatDoorOver
import Derived.Deep.CutRange
set_option autoImplicit false
set_option relaxedAutoImplicit false
set_option linter.unusedVariables false
set_option linter.unusedSimpArgs false
namespace Go.Proofs.YtghihopmiagcpaaGreatDoor
open Go.Rows Go.RowKit Go.Shelf Go.Sort

set_option maxHeartbeats 4000000 in
set_option maxRecDepth 100000 in
theorem spanPoints_law (A0 : Option Addr) (n0 c0 : Nat) (a : List Spn) (A1 : Option Addr) (n1 c1 : Nat) (b : List Spn) (v : Ver) (w : World) (hv : Vok w) (ha : SlV rSpn w (fun b => b < w.heap.size) a (.slice A0 n0 c0)) (hla : a.length * 9 ≤ 1048576) (hb : SlV rSpn w (fun b => b < w.heap.size) b (.slice A1 n1 c1)) (hlb : b.length * 9 ≤ 1048576) (hvi : I64 v.major ∧ I64 v.minor ∧ I64 v.patch) :
    Calls Tryz.prog 9 #[.slice A0 n0 c0, .slice A1 n1 c1, verV v] w fun e w' => e = .returned (.bool true) ∧ Below w.heap.size w w' := by
  have Hv0 := Lib.hid hv
  obtain ⟨qm, h_qm⟩ : ∃ q, q = foldQ 109 a b := ⟨_, rfl⟩
  have C_qm : Hid (∀ W A n k1 B m k2 S T, SlV rSpn W S a (.slice A n k1) → SlV rSpn W T b (.slice B m k2) → Calls Tryz.prog 26 #[.slice A n k1, .slice B m k2] W (Made W qm)) := fun W A n k1 B m k2 S T hx hy => by rw [h_qm]; exact meet_any A B n m k1 k2 _ _ W S T hx hy
  obtain ⟨qj, h_qj⟩ : ∃ q, q = foldQ 106 a b := ⟨_, rfl⟩
  have C_qj : Hid (∀ W A n k1 B m k2 S T, SlV rSpn W S a (.slice A n k1) → SlV rSpn W T b (.slice B m k2) → Calls Tryz.prog 25 #[.slice A n k1, .slice B m k2] W (Made W qj)) := fun W A n k1 B m k2 S T hx hy => by rw [h_qj]; exact join2_any A B n m k1 k2 _ _ W S T hx hy
  obtain ⟨qc, h_qc⟩ : ∃ q, q = foldQ 99 a b := ⟨_, rfl⟩
  have C_qc : Hid (∀ W A n k1 B m k2 S T, SlV rSpn W S a (.slice A n k1) → SlV rSpn W T b (.slice B m k2) → Calls Tryz.prog 29 #[.slice A n k1, .slice B m k2] W (Made W qc)) := fun W A n k1 B m k2 S T hx hy => by rw [h_qc]; exact cut_any A B n m k1 k2 _ _ W S T hx hy
  have LN : Hid ((spansB a && spansB b) = false → qm.2 = 21 ∧ qj.2 = 21 ∧ qc.2 = 21) := fun h => by rw [h_qm, h_qj, h_qc, foldQ_no h, foldQ_no h, foldQ_no h]; exact ⟨rfl, rfl, rfl⟩
  have L1 : Hid (spansB a = true → spansB b = true → qm.2 = 0 → spansB qm.1 = true ∧ inSB qm.1 v = (inSB a v && inSB b v)) := fun ma mb e => by rw [h_qm] at e ⊢; exact points_m ma mb e
  have L2 : Hid (spansB a = true → spansB b = true → qj.2 = 0 → spansB qj.1 = true ∧ inSB qj.1 v = (inSB a v || inSB b v)) := fun ma mb e => by rw [h_qj] at e ⊢; exact points_j ma mb e
  have L3 : Hid (spansB a = true → spansB b = true → qc.2 = 0 → spansB qc.1 = true ∧ inSB qc.1 v = (inSB a v && !inSB b v)) := fun ma mb e => by rw [h_qc] at e ⊢; exact points_c ma mb e
  clear h_qm h_qj h_qc
  obtain ⟨p_a, h_pa⟩ : ∃ p, p = spansB a := ⟨_, rfl⟩
  obtain ⟨i_a, h_ia⟩ : ∃ p, p = inSB a v := ⟨_, rfl⟩
  have CM_a : Hid (∀ W A n k1 S, SlV rSpn W S a (.slice A n k1) → Calls Tryz.prog 12 #[.slice A n k1] W fun e w' => e = .returned (.bool p_a) ∧ Below W.heap.size W w') := fun W A n k1 S h => by rw [h_pa]; exact spanMay_any A n k1 a W S h
  have CI_a : Hid (∀ W A n k1 S, SlV rSpn W S a (.slice A n k1) → Calls Tryz.prog 14 #[.slice A n k1, verV v] W fun e w' => e = .returned (.bool i_a) ∧ Below W.heap.size W w') := fun W A n k1 S h => by rw [h_ia]; exact spanIn_any A n k1 a v W S h
  obtain ⟨p_b, h_pb⟩ : ∃ p, p = spansB b := ⟨_, rfl⟩
  obtain ⟨i_b, h_ib⟩ : ∃ p, p = inSB b v := ⟨_, rfl⟩
  have CM_b : Hid (∀ W A n k1 S, SlV rSpn W S b (.slice A n k1) → Calls Tryz.prog 12 #[.slice A n k1] W fun e w' => e = .returned (.bool p_b) ∧ Below W.heap.size W w') := fun W A n k1 S h => by rw [h_pb]; exact spanMay_any A n k1 b W S h
  have CI_b : Hid (∀ W A n k1 S, SlV rSpn W S b (.slice A n k1) → Calls Tryz.prog 14 #[.slice A n k1, verV v] W fun e w' => e = .returned (.bool i_b) ∧ Below W.heap.size W w') := fun W A n k1 S h => by rw [h_ib]; exact spanIn_any A n k1 b v W S h
  obtain ⟨p_qm, h_pqm⟩ : ∃ p, p = spansB qm.1 := ⟨_, rfl⟩
  obtain ⟨i_qm, h_iqm⟩ : ∃ p, p = inSB qm.1 v := ⟨_, rfl⟩
  have CM_qm : Hid (∀ W A n k1 S, SlV rSpn W S qm.1 (.slice A n k1) → Calls Tryz.prog 12 #[.slice A n k1] W fun e w' => e = .returned (.bool p_qm) ∧ Below W.heap.size W w') := fun W A n k1 S h => by rw [h_pqm]; exact spanMay_any A n k1 qm.1 W S h
  have CI_qm : Hid (∀ W A n k1 S, SlV rSpn W S qm.1 (.slice A n k1) → Calls Tryz.prog 14 #[.slice A n k1, verV v] W fun e w' => e = .returned (.bool i_qm) ∧ Below W.heap.size W w') := fun W A n k1 S h => by rw [h_iqm]; exact spanIn_any A n k1 qm.1 v W S h
  obtain ⟨p_qj, h_pqj⟩ : ∃ p, p = spansB qj.1 := ⟨_, rfl⟩
  obtain ⟨i_qj, h_iqj⟩ : ∃ p, p = inSB qj.1 v := ⟨_, rfl⟩
  have CM_qj : Hid (∀ W A n k1 S, SlV rSpn W S qj.1 (.slice A n k1) → Calls Tryz.prog 12 #[.slice A n k1] W fun e w' => e = .returned (.bool p_qj) ∧ Below W.heap.size W w') := fun W A n k1 S h => by rw [h_pqj]; exact spanMay_any A n k1 qj.1 W S h
  have CI_qj : Hid (∀ W A n k1 S, SlV rSpn W S qj.1 (.slice A n k1) → Calls Tryz.prog 14 #[.slice A n k1, verV v] W fun e w' => e = .returned (.bool i_qj) ∧ Below W.heap.size W w') := fun W A n k1 S h => by rw [h_iqj]; exact spanIn_any A n k1 qj.1 v W S h
  obtain ⟨p_qc, h_pqc⟩ : ∃ p, p = spansB qc.1 := ⟨_, rfl⟩
  obtain ⟨i_qc, h_iqc⟩ : ∃ p, p = inSB qc.1 v := ⟨_, rfl⟩
  have CM_qc : Hid (∀ W A n k1 S, SlV rSpn W S qc.1 (.slice A n k1) → Calls Tryz.prog 12 #[.slice A n k1] W fun e w' => e = .returned (.bool p_qc) ∧ Below W.heap.size W w') := fun W A n k1 S h => by rw [h_pqc]; exact spanMay_any A n k1 qc.1 W S h
  have CI_qc : Hid (∀ W A n k1 S, SlV rSpn W S qc.1 (.slice A n k1) → Calls Tryz.prog 14 #[.slice A n k1, verV v] W fun e w' => e = .returned (.bool i_qc) ∧ Below W.heap.size W w') := fun W A n k1 S h => by rw [h_iqc]; exact spanIn_any A n k1 qc.1 v W S h
  rw [← h_pa, ← h_pb] at LN L1 L2 L3
  rw [← h_pqm, ← h_iqm, ← h_ia, ← h_ib] at L1
  rw [← h_pqj, ← h_iqj, ← h_ia, ← h_ib] at L2
  rw [← h_pqc, ← h_iqc, ← h_ia, ← h_ib] at L3
  clear h_pa h_pb h_pqm h_pqj h_pqc h_ia h_ib h_iqm h_iqj h_iqc
  have H_a := Lib.hid (ha.alloc (.cells #[.int .i64 v.major, .int .i64 v.minor, .int .i64 v.patch] 24))
  have H_b := Lib.hid (hb.alloc (.cells #[.int .i64 v.major, .int .i64 v.minor, .int .i64 v.patch] 24))
  unfold verV at CI_a CI_b CI_qm CI_qj CI_qc ⊢
  obtain ⟨v1, v2, v3⟩ := v
  simp only at CI_a CI_b CI_qm CI_qj CI_qc H_a H_b ⊢
  clear ha hb hla hlb hvi hv
  go_enter Tryz.func9, Tryz.ntmps9
  go_wp2_with fail
  obtain ⟨wi, hwi⟩ : ∃ wi, wi = w.alloc (.cells #[.int .i64 v1, .int .i64 v2, .int .i64 v3] 24) := ⟨_, rfl⟩
  have HB0 : Hid (Below w.heap.size w wi) := by unfold Hid; rw [hwi]; exact bal (Below.refl _ _) _
  have HR : Hid (wi.heap[w.heap.size]? = some (.cells #[.int .i64 v1, .int .i64 v2, .int .i64 v3] 24 (0, 0))) := by unfold Hid; rw [hwi]; exact heap_alloc_new w _
  rw [← hwi] at H_a H_b
  rw [← hwi]
  clear hwi
  refine (known_any _ (Hv0.out.below HB0.out)).mono ?_
  rintro e w1 ⟨rfl, hb1⟩
  have HRn := Lib.hid ((hb1.block _ (Array.getElem?_eq_some_iff.1 HR.out).1).trans HR.out)
  clear HR
  have HR := HRn; clear HRn
  have N_a := Lib.hid (H_a.out.belowSize hb1)
  have N_b := Lib.hid (H_b.out.belowSize hb1)
  clear H_a H_b
  have H_a := N_a; clear N_a
  have H_b := N_b; clear N_b
  have HB1 := Lib.hid (bot HB0.out hb1)
  clear HB0
  clear hb1 Hv0
  go_wp2_with fail
  refine (C_qm.out _ _ _ _ _ _ _ _ _ H_a.out H_b.out).mono ?_
  rintro e w2 ⟨v2, rfl, ho2, hb2⟩
  have hs2 := ho2.slvB
  obtain ⟨A_qm, c_qm, rfl, _, _⟩ := hs2.val
  obtain ⟨n_qm, hn2⟩ : ∃ n, n = qm.1.length := ⟨_, rfl⟩
  rw [← hn2] at hs2 ⊢
  have Hn_qm := Lib.hid hn2
  clear ho2 hn2
  have HRn := Lib.hid ((hb2.block _ (Array.getElem?_eq_some_iff.1 HR.out).1).trans HR.out)
  clear HR
  have HR := HRn; clear HRn
  have N_a := Lib.hid (H_a.out.belowSize hb2)
  have N_b := Lib.hid (H_b.out.belowSize hb2)
  clear H_a H_b
  have H_a := N_a; clear N_a
  have H_b := N_b; clear N_b
  have HB2 := Lib.hid (bot HB1.out hb2)
  clear HB1
  have H_qm := Lib.hid hs2
  clear hs2 hb2 C_qm
  go_wp2_with fail
  refine (C_qj.out _ _ _ _ _ _ _ _ _ H_a.out H_b.out).mono ?_
  rintro e w3 ⟨v3, rfl, ho3, hb3⟩
  have hs3 := ho3.slvB
  obtain ⟨A_qj, c_qj, rfl, _, _⟩ := hs3.val
  obtain ⟨n_qj, hn3⟩ : ∃ n, n = qj.1.length := ⟨_, rfl⟩
  rw [← hn3] at hs3 ⊢
  have Hn_qj := Lib.hid hn3
  clear ho3 hn3
  have HRn := Lib.hid ((hb3.block _ (Array.getElem?_eq_some_iff.1 HR.out).1).trans HR.out)
  clear HR
  have HR := HRn; clear HRn
  have N_a := Lib.hid (H_a.out.belowSize hb3)
  have N_b := Lib.hid (H_b.out.belowSize hb3)
  have N_qm := Lib.hid (H_qm.out.belowSize hb3)
  clear H_a H_b H_qm
  have H_a := N_a; clear N_a
  have H_b := N_b; clear N_b
  have H_qm := N_qm; clear N_qm
  have HB3 := Lib.hid (bot HB2.out hb3)
  clear HB2
  have H_qj := Lib.hid hs3
  clear hs3 hb3 C_qj
  go_wp2_with fail
  refine (C_qc.out _ _ _ _ _ _ _ _ _ H_a.out H_b.out).mono ?_
  rintro e w4 ⟨v4, rfl, ho4, hb4⟩
  have hs4 := ho4.slvB
  obtain ⟨A_qc, c_qc, rfl, _, _⟩ := hs4.val
  obtain ⟨n_qc, hn4⟩ : ∃ n, n = qc.1.length := ⟨_, rfl⟩
  rw [← hn4] at hs4 ⊢
  have Hn_qc := Lib.hid hn4
  clear ho4 hn4
  have HRn := Lib.hid ((hb4.block _ (Array.getElem?_eq_some_iff.1 HR.out).1).trans HR.out)
  clear HR
  have HR := HRn; clear HRn
  have N_a := Lib.hid (H_a.out.belowSize hb4)
  have N_b := Lib.hid (H_b.out.belowSize hb4)
  have N_qm := Lib.hid (H_qm.out.belowSize hb4)
  have N_qj := Lib.hid (H_qj.out.belowSize hb4)
  clear H_a H_b H_qm H_qj
  have H_a := N_a; clear N_a
  have H_b := N_b; clear N_b
  have H_qm := N_qm; clear N_qm
  have H_qj := N_qj; clear N_qj
  have HB4 := Lib.hid (bot HB3.out hb4)
  clear HB3
  have H_qc := Lib.hid hs4
  clear hs4 hb4 C_qc
  go_wp2_with fail
  refine (CM_a.out _ _ _ _ _ H_a.out).mono ?_
  rintro e w5 ⟨rfl, hb5⟩
  have HRn := Lib.hid ((hb5.block _ (Array.getElem?_eq_some_iff.1 HR.out).1).trans HR.out)
  clear HR
  have HR := HRn; clear HRn
  have N_a := Lib.hid (H_a.out.belowSize hb5)
  have N_b := Lib.hid (H_b.out.belowSize hb5)
  have N_qm := Lib.hid (H_qm.out.belowSize hb5)
  have N_qj := Lib.hid (H_qj.out.belowSize hb5)
  have N_qc := Lib.hid (H_qc.out.belowSize hb5)
  clear H_a H_b H_qm H_qj H_qc
  have H_a := N_a; clear N_a
  have H_b := N_b; clear N_b
  have H_qm := N_qm; clear N_qm
  have H_qj := N_qj; clear N_qj
  have H_qc := N_qc; clear N_qc
  have HB5 := Lib.hid (bot HB4.out hb5)
  clear HB4
  clear hb5
  cases p_a with
  | false =>
    obtain ⟨z1, z2, z3⟩ := LN.out (by simp)
    have t1 : (qm.2 == 21) = true := by simp [z1]
    have t2 : (qj.2 == 21) = true := by simp [z2]
    have t3 : (qc.2 == 21) = true := by simp [z3]
    clear LN L1 L2 L3 z1 z2 z3
    go_wp2_with fail
    go_ret
    exact ⟨rfl, HB5.out⟩
  | true =>
  go_wp2_with fail
  refine (CM_b.out _ _ _ _ _ H_b.out).mono ?_
  rintro e w6 ⟨rfl, hb6⟩
  have HRn := Lib.hid ((hb6.block _ (Array.getElem?_eq_some_iff.1 HR.out).1).trans HR.out)
  clear HR
  have HR := HRn; clear HRn
  have N_a := Lib.hid (H_a.out.belowSize hb6)
  have N_b := Lib.hid (H_b.out.belowSize hb6)
  have N_qm := Lib.hid (H_qm.out.belowSize hb6)
  have N_qj := Lib.hid (H_qj.out.belowSize hb6)
  have N_qc := Lib.hid (H_qc.out.belowSize hb6)
  clear H_a H_b H_qm H_qj H_qc
  have H_a := N_a; clear N_a
  have H_b := N_b; clear N_b
  have H_qm := N_qm; clear N_qm
  have H_qj := N_qj; clear N_qj
  have H_qc := N_qc; clear N_qc
  have HB6 := Lib.hid (bot HB5.out hb6)
  clear HB5
  clear hb6
  cases p_b with
  | false =>
    obtain ⟨z1, z2, z3⟩ := LN.out (by simp)
    have t1 : (qm.2 == 21) = true := by simp [z1]
    have t2 : (qj.2 == 21) = true := by simp [z2]
    have t3 : (qc.2 == 21) = true := by simp [z3]
    clear LN L1 L2 L3 z1 z2 z3
    go_wp2_with fail
    go_ret
    exact ⟨rfl, HB6.out⟩
  | true =>
  clear LN
  obtain ⟨⟨y1, y2, y3⟩, _⟩ := row3 HR.out
  go_wp2_with fail
  refine (CI_a.out _ _ _ _ _ H_a.out).mono ?_
  rintro e w7 ⟨rfl, hb7⟩
  have HRn := Lib.hid ((hb7.block _ (Array.getElem?_eq_some_iff.1 HR.out).1).trans HR.out)
  clear HR
  have HR := HRn; clear HRn
  have N_a := Lib.hid (H_a.out.belowSize hb7)
  have N_b := Lib.hid (H_b.out.belowSize hb7)
  have N_qm := Lib.hid (H_qm.out.belowSize hb7)
  have N_qj := Lib.hid (H_qj.out.belowSize hb7)
  have N_qc := Lib.hid (H_qc.out.belowSize hb7)
  clear H_a H_b H_qm H_qj H_qc
  have H_a := N_a; clear N_a
  have H_b := N_b; clear N_b
  have H_qm := N_qm; clear N_qm
  have H_qj := N_qj; clear N_qj
  have H_qc := N_qc; clear N_qc
  have HB7 := Lib.hid (bot HB6.out hb7)
  clear HB6
  clear hb7
  clear y1 y2 y3
  obtain ⟨⟨y1, y2, y3⟩, _⟩ := row3 HR.out
  go_wp2_with fail
  refine (CI_b.out _ _ _ _ _ H_b.out).mono ?_
  rintro e w8 ⟨rfl, hb8⟩
  have HRn := Lib.hid ((hb8.block _ (Array.getElem?_eq_some_iff.1 HR.out).1).trans HR.out)
  clear HR
  have HR := HRn; clear HRn
  have N_a := Lib.hid (H_a.out.belowSize hb8)
  have N_b := Lib.hid (H_b.out.belowSize hb8)
  have N_qm := Lib.hid (H_qm.out.belowSize hb8)
  have N_qj := Lib.hid (H_qj.out.belowSize hb8)
  have N_qc := Lib.hid (H_qc.out.belowSize hb8)
  clear H_a H_b H_qm H_qj H_qc
  have H_a := N_a; clear N_a
  have H_b := N_b; clear N_b
  have H_qm := N_qm; clear N_qm
  have H_qj := N_qj; clear N_qj
  have H_qc := N_qc; clear N_qc
  have HB8 := Lib.hid (bot HB7.out hb8)
  clear HB7
  clear hb8
  clear y1 y2 y3
  go_upto_region 10 with fail
  go_cut [75] from 59 (fun u wx => u = .bool false ∧ Hid (Below w8.heap.size w8 wx))
  case first =>
    obtain ⟨⟨y1, y2, y3⟩, _⟩ := row3 HR.out
    by_cases e1 : qm.2 = 0
    · obtain ⟨z1, z2⟩ := L1.out (by simp) (by simp) e1
      subst z1 z2
      have t1 : (qm.2 == 0) = true := by simp [e1]
      clear L1 L2 L3 e1
      go_wp2_with fail
      refine (CM_qm.out _ _ _ _ _ H_qm.out).mono ?_
      rintro e wz ⟨rfl, hbz⟩
      have HRz := Lib.hid ((hbz.block _ (Array.getElem?_eq_some_iff.1 HR.out).1).trans HR.out)
      have Hz := Lib.hid (H_qm.out.belowSize hbz)
      clear y1 y2 y3
      obtain ⟨⟨y1, y2, y3⟩, _⟩ := row3 HRz.out
      go_wp2_with fail
      refine (CI_qm.out _ _ _ _ _ Hz.out).mono ?_
      rintro e wy ⟨rfl, hby⟩
      have HY := Lib.hid (bot hbz hby)
      clear hbz hby y1 y2 y3
      cases i_a <;> cases i_b <;> (go_wp2_with fail; go_meet; exact ⟨rfl, HY.out⟩)
    · have t1 : (qm.2 == 0) = false := by simp [e1]
      clear L1 L2 L3 e1
      go_wp2_with fail
      go_meet
      exact ⟨rfl, Below.refl _ _⟩
  case rest =>
  obtain ⟨hu, hbc'⟩ := hcut
  subst hu
  have hbc := hbc'.out
  clear hbc'
  have HRn := Lib.hid ((hbc.block _ (Array.getElem?_eq_some_iff.1 HR.out).1).trans HR.out)
  clear HR
  have HR := HRn; clear HRn
  have N_a := Lib.hid (H_a.out.belowSize hbc)
  have N_b := Lib.hid (H_b.out.belowSize hbc)
  have N_qm := Lib.hid (H_qm.out.belowSize hbc)
  have N_qj := Lib.hid (H_qj.out.belowSize hbc)
  have N_qc := Lib.hid (H_qc.out.belowSize hbc)
  clear H_a H_b H_qm H_qj H_qc
  have H_a := N_a; clear N_a
  have H_b := N_b; clear N_b
  have H_qm := N_qm; clear N_qm
  have H_qj := N_qj; clear N_qj
  have H_qc := N_qc; clear N_qc
  have HB9 := Lib.hid (bot HB8.out hbc)
  clear HB8
  clear hbc
  obtain ⟨w9, hw9⟩ : ∃ w9, w9 = wc := ⟨_, rfl⟩
  subst hw9
  go_upto_region 12 with fail
  go_cut [92] from 76 (fun u wx => u = .bool false ∧ Hid (Below w9.heap.size w9 wx))
  case first =>
    obtain ⟨⟨y1, y2, y3⟩, _⟩ := row3 HR.out
    by_cases e1 : qj.2 = 0
    · obtain ⟨z1, z2⟩ := L2.out (by simp) (by simp) e1
      subst z1 z2
      have t1 : (qj.2 == 0) = true := by simp [e1]
      clear L1 L2 L3 e1
      go_wp2_with fail
      refine (CM_qj.out _ _ _ _ _ H_qj.out).mono ?_
      rintro e wz ⟨rfl, hbz⟩
      have HRz := Lib.hid ((hbz.block _ (Array.getElem?_eq_some_iff.1 HR.out).1).trans HR.out)
      have Hz := Lib.hid (H_qj.out.belowSize hbz)
      clear y1 y2 y3
      obtain ⟨⟨y1, y2, y3⟩, _⟩ := row3 HRz.out
      go_wp2_with fail
      refine (CI_qj.out _ _ _ _ _ Hz.out).mono ?_
      rintro e wy ⟨rfl, hby⟩
      have HY := Lib.hid (bot hbz hby)
      clear hbz hby y1 y2 y3
      cases i_a <;> cases i_b <;> (go_wp2_with fail; go_meet; exact ⟨rfl, HY.out⟩)
    · have t1 : (qj.2 == 0) = false := by simp [e1]
      clear L1 L2 L3 e1
      go_wp2_with fail
      go_meet
      exact ⟨rfl, Below.refl _ _⟩
  case rest =>
  obtain ⟨hu, hbc'⟩ := hcut
  subst hu
  have hbc := hbc'.out
  clear hbc'
  have HRn := Lib.hid ((hbc.block _ (Array.getElem?_eq_some_iff.1 HR.out).1).trans HR.out)
  clear HR
  have HR := HRn; clear HRn
  have N_a := Lib.hid (H_a.out.belowSize hbc)
  have N_b := Lib.hid (H_b.out.belowSize hbc)
  have N_qm := Lib.hid (H_qm.out.belowSize hbc)
  have N_qj := Lib.hid (H_qj.out.belowSize hbc)
  have N_qc := Lib.hid (H_qc.out.belowSize hbc)
  clear H_a H_b H_qm H_qj H_qc
  have H_a := N_a; clear N_a
  have H_b := N_b; clear N_b
  have H_qm := N_qm; clear N_qm
  have H_qj := N_qj; clear N_qj
  have H_qc := N_qc; clear N_qc
  have HB10 := Lib.hid (bot HB9.out hbc)
  clear HB9
  clear hbc
  obtain ⟨w10, hw10⟩ : ∃ w10, w10 = wc := ⟨_, rfl⟩
  subst hw10
  obtain ⟨⟨y1, y2, y3⟩, _⟩ := row3 HR.out
  by_cases e1 : qc.2 = 0
  · obtain ⟨z1, z2⟩ := L3.out (by simp) (by simp) e1
    subst z1 z2
    have t1 : (qc.2 != 0) = false := by simp [e1]
    have t2 : (qc.2 == 0) = true := by simp [e1]
    clear L1 L2 L3 e1
    go_wp2_with fail
    refine (CM_qc.out _ _ _ _ _ H_qc.out).mono ?_
    rintro e wz ⟨rfl, hbz⟩
    have HRz := Lib.hid ((hbz.block _ (Array.getElem?_eq_some_iff.1 HR.out).1).trans HR.out)
    have Hz := Lib.hid (H_qc.out.belowSize hbz)
    clear y1 y2 y3
    obtain ⟨⟨y1, y2, y3⟩, _⟩ := row3 HRz.out
    go_wp2_with fail
    refine (CI_qc.out _ _ _ _ _ Hz.out).mono ?_
    rintro e wy ⟨rfl, hby⟩
    have HY := Lib.hid (bot HB10.out (bot hbz hby))
    clear hbz hby y1 y2 y3
    cases i_a <;> cases i_b <;> (go_wp2_with fail; go_ret; exact ⟨rfl, HY.out⟩)
  · have t1 : (qc.2 != 0) = true := by simp [e1]
    have t2 : (qc.2 == 0) = false := by simp [e1]
    clear L1 L2 L3 e1
    go_wp2_with fail
    go_ret
    exact ⟨rfl, HB10.out⟩
end Go.Proofs.YtghihopmiagcpaaGreatDoor
