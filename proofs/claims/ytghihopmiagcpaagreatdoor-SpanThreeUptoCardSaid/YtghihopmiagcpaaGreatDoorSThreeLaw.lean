/-
  halyardlaw03.SpanThree, walked.
-/
import Derived.Test.YtghihopmiagcpaaGreatDoorOver
import Derived.Deep.CutRange
set_option autoImplicit false
set_option relaxedAutoImplicit false
set_option linter.unusedVariables false
set_option linter.unusedSimpArgs false
namespace Go.Proofs.YtghihopmiagcpaaGreatDoor
open Go.Rows Go.RowKit Go.Shelf Go.Sort

set_option maxHeartbeats 4000000 in
set_option maxRecDepth 100000 in
theorem spanThree_law (A0 : Option Addr) (n0 c0 : Nat) (a : List Spn) (A1 : Option Addr) (n1 c1 : Nat) (b : List Spn) (A2 : Option Addr) (n2 c2 : Nat) (c : List Spn) (w : World) (hv : Vok w) (ha : SlV rSpn w (fun b => b < w.heap.size) a (.slice A0 n0 c0)) (hla : a.length * 9 ≤ 1048576) (hb : SlV rSpn w (fun b => b < w.heap.size) b (.slice A1 n1 c1)) (hlb : b.length * 9 ≤ 1048576) (hc : SlV rSpn w (fun b => b < w.heap.size) c (.slice A2 n2 c2)) (hlc : c.length * 9 ≤ 1048576) :
    Calls Tryz.prog 11 #[.slice A0 n0 c0, .slice A1 n1 c1, .slice A2 n2 c2] w fun e w' => e = .returned (.bool true) ∧ Below w.heap.size w w' := by
  have Hv := Lib.hid hv
  have H_a := Lib.hid ha
  have H_b := Lib.hid hb
  have H_c := Lib.hid hc
  clear ha hb hc hla hlb hlc hv
  obtain ⟨bc, h_bc⟩ : ∃ q, q = foldQ 106 b c := ⟨_, rfl⟩
  have C_bc : Hid (∀ W A n k1 B m k2 S T, SlV rSpn W S b (.slice A n k1) → SlV rSpn W T c (.slice B m k2) → Calls Tryz.prog 25 #[.slice A n k1, .slice B m k2] W (Made W bc)) := fun W A n k1 B m k2 S T hx hy => by rw [h_bc]; exact join2_any A B n m k1 k2 _ _ W S T hx hy
  obtain ⟨ab, h_ab⟩ : ∃ q, q = foldQ 109 a b := ⟨_, rfl⟩
  have C_ab : Hid (∀ W A n k1 B m k2 S T, SlV rSpn W S a (.slice A n k1) → SlV rSpn W T b (.slice B m k2) → Calls Tryz.prog 26 #[.slice A n k1, .slice B m k2] W (Made W ab)) := fun W A n k1 B m k2 S T hx hy => by rw [h_ab]; exact meet_any A B n m k1 k2 _ _ W S T hx hy
  obtain ⟨ac, h_ac⟩ : ∃ q, q = foldQ 109 a c := ⟨_, rfl⟩
  have C_ac : Hid (∀ W A n k1 B m k2 S T, SlV rSpn W S a (.slice A n k1) → SlV rSpn W T c (.slice B m k2) → Calls Tryz.prog 26 #[.slice A n k1, .slice B m k2] W (Made W ac)) := fun W A n k1 B m k2 S T hx hy => by rw [h_ac]; exact meet_any A B n m k1 k2 _ _ W S T hx hy
  obtain ⟨ml, h_ml⟩ : ∃ q, q = foldQ 109 a bc.1 := ⟨_, rfl⟩
  have C_ml : Hid (∀ W A n k1 B m k2 S T, SlV rSpn W S a (.slice A n k1) → SlV rSpn W T bc.1 (.slice B m k2) → Calls Tryz.prog 26 #[.slice A n k1, .slice B m k2] W (Made W ml)) := fun W A n k1 B m k2 S T hx hy => by rw [h_ml]; exact meet_any A B n m k1 k2 _ _ W S T hx hy
  obtain ⟨mr, h_mr⟩ : ∃ q, q = foldQ 106 ab.1 ac.1 := ⟨_, rfl⟩
  have C_mr : Hid (∀ W A n k1 B m k2 S T, SlV rSpn W S ab.1 (.slice A n k1) → SlV rSpn W T ac.1 (.slice B m k2) → Calls Tryz.prog 25 #[.slice A n k1, .slice B m k2] W (Made W mr)) := fun W A n k1 B m k2 S T hx hy => by rw [h_mr]; exact join2_any A B n m k1 k2 _ _ W S T hx hy
  obtain ⟨kx, h_kx⟩ : ∃ q, q = foldQ 99 a bc.1 := ⟨_, rfl⟩
  have C_kx : Hid (∀ W A n k1 B m k2 S T, SlV rSpn W S a (.slice A n k1) → SlV rSpn W T bc.1 (.slice B m k2) → Calls Tryz.prog 29 #[.slice A n k1, .slice B m k2] W (Made W kx)) := fun W A n k1 B m k2 S T hx hy => by rw [h_kx]; exact cut_any A B n m k1 k2 _ _ W S T hx hy
  obtain ⟨ky, h_ky⟩ : ∃ q, q = foldQ 99 a b := ⟨_, rfl⟩
  have C_ky : Hid (∀ W A n k1 B m k2 S T, SlV rSpn W S a (.slice A n k1) → SlV rSpn W T b (.slice B m k2) → Calls Tryz.prog 29 #[.slice A n k1, .slice B m k2] W (Made W ky)) := fun W A n k1 B m k2 S T hx hy => by rw [h_ky]; exact cut_any A B n m k1 k2 _ _ W S T hx hy
  obtain ⟨kz, h_kz⟩ : ∃ q, q = foldQ 99 ky.1 c := ⟨_, rfl⟩
  have C_kz : Hid (∀ W A n k1 B m k2 S T, SlV rSpn W S ky.1 (.slice A n k1) → SlV rSpn W T c (.slice B m k2) → Calls Tryz.prog 29 #[.slice A n k1, .slice B m k2] W (Made W kz)) := fun W A n k1 B m k2 S T hx hy => by rw [h_kz]; exact cut_any A B n m k1 k2 _ _ W S T hx hy
  obtain ⟨mp, h_mp⟩ : ∃ q, q = foldQ 109 ab.1 c := ⟨_, rfl⟩
  have C_mp : Hid (∀ W A n k1 B m k2 S T, SlV rSpn W S ab.1 (.slice A n k1) → SlV rSpn W T c (.slice B m k2) → Calls Tryz.prog 26 #[.slice A n k1, .slice B m k2] W (Made W mp)) := fun W A n k1 B m k2 S T hx hy => by rw [h_mp]; exact meet_any A B n m k1 k2 _ _ W S T hx hy
  obtain ⟨bm, h_bm⟩ : ∃ q, q = foldQ 109 b c := ⟨_, rfl⟩
  have C_bm : Hid (∀ W A n k1 B m k2 S T, SlV rSpn W S b (.slice A n k1) → SlV rSpn W T c (.slice B m k2) → Calls Tryz.prog 26 #[.slice A n k1, .slice B m k2] W (Made W bm)) := fun W A n k1 B m k2 S T hx hy => by rw [h_bm]; exact meet_any A B n m k1 k2 _ _ W S T hx hy
  obtain ⟨mq, h_mq⟩ : ∃ q, q = foldQ 109 a bm.1 := ⟨_, rfl⟩
  have C_mq : Hid (∀ W A n k1 B m k2 S T, SlV rSpn W S a (.slice A n k1) → SlV rSpn W T bm.1 (.slice B m k2) → Calls Tryz.prog 26 #[.slice A n k1, .slice B m k2] W (Made W mq)) := fun W A n k1 B m k2 S T hx hy => by rw [h_mq]; exact meet_any A B n m k1 k2 _ _ W S T hx hy
  have L1 : Hid (spansB a = true → spansB b = true → spansB c = true → bc.2 = 0 → ab.2 = 0 → ac.2 = 0 → ml = mr) := fun ma mb mc e1 e2 e3 => by rw [h_bc] at e1; rw [h_ab] at e2; rw [h_ac] at e3; rw [h_ml, h_mr, h_bc, h_ab, h_ac]; exact three_m ma mb mc e1 e2 e3
  have L2 : Hid (spansB a = true → spansB b = true → spansB c = true → bc.2 = 0 → ky.2 = 0 → kx = kz) := fun ma mb mc e1 e2 => by rw [h_bc] at e1; rw [h_ky] at e2; rw [h_kx, h_kz, h_bc, h_ky]; exact three_c ma mb mc e1 e2
  have L3 : Hid (spansB a = true → spansB b = true → spansB c = true → ab.2 = 0 → bm.2 = 0 → mp = mq) := fun ma mb mc e1 e2 => by rw [h_ab] at e1; rw [h_bm] at e2; rw [h_mq, h_mp, h_ab, h_bm]; exact three_a ma mb mc e1 e2
  clear h_bc h_ab h_ac h_ml h_mr h_kx h_ky h_kz h_mp h_bm h_mq
  obtain ⟨pa, h_pa⟩ : ∃ p, p = spansB a := ⟨_, rfl⟩
  have CM_a : Hid (∀ W A n k1 S, SlV rSpn W S a (.slice A n k1) → Calls Tryz.prog 12 #[.slice A n k1] W fun e w' => e = .returned (.bool pa) ∧ Below W.heap.size W w') := fun W A n k1 S h => by rw [h_pa]; exact spanMay_any A n k1 a W S h
  obtain ⟨pb, h_pb⟩ : ∃ p, p = spansB b := ⟨_, rfl⟩
  have CM_b : Hid (∀ W A n k1 S, SlV rSpn W S b (.slice A n k1) → Calls Tryz.prog 12 #[.slice A n k1] W fun e w' => e = .returned (.bool pb) ∧ Below W.heap.size W w') := fun W A n k1 S h => by rw [h_pb]; exact spanMay_any A n k1 b W S h
  obtain ⟨pc, h_pc⟩ : ∃ p, p = spansB c := ⟨_, rfl⟩
  have CM_c : Hid (∀ W A n k1 S, SlV rSpn W S c (.slice A n k1) → Calls Tryz.prog 12 #[.slice A n k1] W fun e w' => e = .returned (.bool pc) ∧ Below W.heap.size W w') := fun W A n k1 S h => by rw [h_pc]; exact spanMay_any A n k1 c W S h
  rw [← h_pa, ← h_pb, ← h_pc] at L1 L2 L3
  clear h_pa h_pb h_pc
  go_enter Tryz.func11, Tryz.ntmps11
  go_wp2_with fail
  refine (known_any _ Hv.out).mono ?_
  rintro e w1 ⟨rfl, hb1⟩
  have N_a := Lib.hid (H_a.out.belowSize hb1)
  have N_b := Lib.hid (H_b.out.belowSize hb1)
  have N_c := Lib.hid (H_c.out.belowSize hb1)
  clear H_a H_b H_c
  have H_a := N_a; clear N_a
  have H_b := N_b; clear N_b
  have H_c := N_c; clear N_c
  have HB1 := Lib.hid hb1
  clear hb1
  clear Hv
  go_wp2_with fail
  refine (CM_a.out _ _ _ _ _ H_a.out).mono ?_
  rintro e w2 ⟨rfl, hb2⟩
  have N_a := Lib.hid (H_a.out.belowSize hb2)
  have N_b := Lib.hid (H_b.out.belowSize hb2)
  have N_c := Lib.hid (H_c.out.belowSize hb2)
  clear H_a H_b H_c
  have H_a := N_a; clear N_a
  have H_b := N_b; clear N_b
  have H_c := N_c; clear N_c
  have HB2 := Lib.hid (bot HB1.out hb2)
  clear HB1
  clear hb2
  clear CM_a
  cases pa with
  | false =>
    go_wp2_with fail
    go_ret
    exact ⟨rfl, HB2.out⟩
  | true =>
  go_wp2_with fail
  refine (CM_b.out _ _ _ _ _ H_b.out).mono ?_
  rintro e w3 ⟨rfl, hb3⟩
  have N_a := Lib.hid (H_a.out.belowSize hb3)
  have N_b := Lib.hid (H_b.out.belowSize hb3)
  have N_c := Lib.hid (H_c.out.belowSize hb3)
  clear H_a H_b H_c
  have H_a := N_a; clear N_a
  have H_b := N_b; clear N_b
  have H_c := N_c; clear N_c
  have HB3 := Lib.hid (bot HB2.out hb3)
  clear HB2
  clear hb3
  clear CM_b
  cases pb with
  | false =>
    go_wp2_with fail
    go_ret
    exact ⟨rfl, HB3.out⟩
  | true =>
  go_wp2_with fail
  refine (CM_c.out _ _ _ _ _ H_c.out).mono ?_
  rintro e w4 ⟨rfl, hb4⟩
  have N_a := Lib.hid (H_a.out.belowSize hb4)
  have N_b := Lib.hid (H_b.out.belowSize hb4)
  have N_c := Lib.hid (H_c.out.belowSize hb4)
  clear H_a H_b H_c
  have H_a := N_a; clear N_a
  have H_b := N_b; clear N_b
  have H_c := N_c; clear N_c
  have HB4 := Lib.hid (bot HB3.out hb4)
  clear HB3
  clear hb4
  clear CM_c
  cases pc with
  | false =>
    go_wp2_with fail
    go_ret
    exact ⟨rfl, HB4.out⟩
  | true =>
  go_wp2_with fail
  refine (C_bc.out _ _ _ _ _ _ _ _ _ H_b.out H_c.out).mono ?_
  rintro e w5 ⟨v5, rfl, ho5, hb5⟩
  have hs5 := ho5.slvB
  obtain ⟨A_bc, c_bc, rfl, _, _⟩ := hs5.val
  obtain ⟨n_bc, hn5⟩ : ∃ n, n = bc.1.length := ⟨_, rfl⟩
  rw [← hn5] at hs5 ⊢
  have Hn_bc := Lib.hid hn5
  clear ho5 hn5
  have N_a := Lib.hid (H_a.out.belowSize hb5)
  have N_b := Lib.hid (H_b.out.belowSize hb5)
  have N_c := Lib.hid (H_c.out.belowSize hb5)
  clear H_a H_b H_c
  have H_a := N_a; clear N_a
  have H_b := N_b; clear N_b
  have H_c := N_c; clear N_c
  have HB5 := Lib.hid (bot HB4.out hb5)
  clear HB4
  have H_bc := Lib.hid hs5
  clear hs5 hb5 C_bc
  go_wp2_with fail
  refine (C_ab.out _ _ _ _ _ _ _ _ _ H_a.out H_b.out).mono ?_
  rintro e w6 ⟨v6, rfl, ho6, hb6⟩
  have hs6 := ho6.slvB
  obtain ⟨A_ab, c_ab, rfl, _, _⟩ := hs6.val
  obtain ⟨n_ab, hn6⟩ : ∃ n, n = ab.1.length := ⟨_, rfl⟩
  rw [← hn6] at hs6 ⊢
  have Hn_ab := Lib.hid hn6
  clear ho6 hn6
  have N_a := Lib.hid (H_a.out.belowSize hb6)
  have N_b := Lib.hid (H_b.out.belowSize hb6)
  have N_c := Lib.hid (H_c.out.belowSize hb6)
  have N_bc := Lib.hid (H_bc.out.belowSize hb6)
  clear H_a H_b H_c H_bc
  have H_a := N_a; clear N_a
  have H_b := N_b; clear N_b
  have H_c := N_c; clear N_c
  have H_bc := N_bc; clear N_bc
  have HB6 := Lib.hid (bot HB5.out hb6)
  clear HB5
  have H_ab := Lib.hid hs6
  clear hs6 hb6 C_ab
  go_wp2_with fail
  refine (C_ac.out _ _ _ _ _ _ _ _ _ H_a.out H_c.out).mono ?_
  rintro e w7 ⟨v7, rfl, ho7, hb7⟩
  have hs7 := ho7.slvB
  obtain ⟨A_ac, c_ac, rfl, _, _⟩ := hs7.val
  obtain ⟨n_ac, hn7⟩ : ∃ n, n = ac.1.length := ⟨_, rfl⟩
  rw [← hn7] at hs7 ⊢
  have Hn_ac := Lib.hid hn7
  clear ho7 hn7
  have N_a := Lib.hid (H_a.out.belowSize hb7)
  have N_b := Lib.hid (H_b.out.belowSize hb7)
  have N_c := Lib.hid (H_c.out.belowSize hb7)
  have N_bc := Lib.hid (H_bc.out.belowSize hb7)
  have N_ab := Lib.hid (H_ab.out.belowSize hb7)
  clear H_a H_b H_c H_bc H_ab
  have H_a := N_a; clear N_a
  have H_b := N_b; clear N_b
  have H_c := N_c; clear N_c
  have H_bc := N_bc; clear N_bc
  have H_ab := N_ab; clear N_ab
  have HB7 := Lib.hid (bot HB6.out hb7)
  clear HB6
  have H_ac := Lib.hid hs7
  clear hs7 hb7 C_ac
  go_wp2_with fail
  refine (C_ml.out _ _ _ _ _ _ _ _ _ H_a.out H_bc.out).mono ?_
  rintro e w8 ⟨v8, rfl, ho8, hb8⟩
  have hs8 := ho8.slvB
  obtain ⟨A_ml, c_ml, rfl, _, _⟩ := hs8.val
  obtain ⟨n_ml, hn8⟩ : ∃ n, n = ml.1.length := ⟨_, rfl⟩
  rw [← hn8] at hs8 ⊢
  have Hn_ml := Lib.hid hn8
  clear ho8 hn8
  have N_a := Lib.hid (H_a.out.belowSize hb8)
  have N_b := Lib.hid (H_b.out.belowSize hb8)
  have N_c := Lib.hid (H_c.out.belowSize hb8)
  have N_bc := Lib.hid (H_bc.out.belowSize hb8)
  have N_ab := Lib.hid (H_ab.out.belowSize hb8)
  have N_ac := Lib.hid (H_ac.out.belowSize hb8)
  clear H_a H_b H_c H_bc H_ab H_ac
  have H_a := N_a; clear N_a
  have H_b := N_b; clear N_b
  have H_c := N_c; clear N_c
  have H_bc := N_bc; clear N_bc
  have H_ab := N_ab; clear N_ab
  have H_ac := N_ac; clear N_ac
  have HB8 := Lib.hid (bot HB7.out hb8)
  clear HB7
  have H_ml := Lib.hid hs8
  clear hs8 hb8 C_ml
  go_wp2_with fail
  refine (C_mr.out _ _ _ _ _ _ _ _ _ H_ab.out H_ac.out).mono ?_
  rintro e w9 ⟨v9, rfl, ho9, hb9⟩
  have hs9 := ho9.slvB
  obtain ⟨A_mr, c_mr, rfl, _, _⟩ := hs9.val
  obtain ⟨n_mr, hn9⟩ : ∃ n, n = mr.1.length := ⟨_, rfl⟩
  rw [← hn9] at hs9 ⊢
  have Hn_mr := Lib.hid hn9
  clear ho9 hn9
  have N_a := Lib.hid (H_a.out.belowSize hb9)
  have N_b := Lib.hid (H_b.out.belowSize hb9)
  have N_c := Lib.hid (H_c.out.belowSize hb9)
  have N_bc := Lib.hid (H_bc.out.belowSize hb9)
  have N_ab := Lib.hid (H_ab.out.belowSize hb9)
  have N_ac := Lib.hid (H_ac.out.belowSize hb9)
  have N_ml := Lib.hid (H_ml.out.belowSize hb9)
  clear H_a H_b H_c H_bc H_ab H_ac H_ml
  have H_a := N_a; clear N_a
  have H_b := N_b; clear N_b
  have H_c := N_c; clear N_c
  have H_bc := N_bc; clear N_bc
  have H_ab := N_ab; clear N_ab
  have H_ac := N_ac; clear N_ac
  have H_ml := N_ml; clear N_ml
  have HB9 := Lib.hid (bot HB8.out hb9)
  clear HB8
  have H_mr := Lib.hid hs9
  clear hs9 hb9 C_mr
  go_upto_region 10 with fail
  go_cut [94] from 74 (fun u wx => u = .bool false ∧ Hid (Below w9.heap.size w9 wx))
  case first =>
    by_cases e1 : bc.2 = 0
    · by_cases e2 : ab.2 = 0
      · by_cases e3 : ac.2 = 0
        · have hm := L1.out (by simp) (by simp) (by simp) e1 e2 e3
          subst hm
          have t1 : (bc.2 == 0) = true := by simp [e1]
          have t2 : (ab.2 == 0) = true := by simp [e2]
          have t3 : (ac.2 == 0) = true := by simp [e3]
          have t4 : (ml.2 != ml.2) = false := by simp
          have t5 : (ml.2 == ml.2) = true := by simp
          clear e1 e2 e3 L1 L2 L3
          go_wp2_with fail
          refine (same_yes _ _ _ _ _ _ ml.1 _ _ _ H_ml.out H_mr.out).mono ?_
          rintro e wz ⟨rfl, hbz⟩
          go_wp2_with fail
          go_meet
          exact ⟨rfl, hbz⟩
        · have t1 : (bc.2 == 0) = true := by simp [e1]
          have t2 : (ab.2 == 0) = true := by simp [e2]
          have t3 : (ac.2 == 0) = false := by simp [e3]
          clear L1 L2 L3 e1 e2 e3
          go_wp2_with fail
          go_meet
          exact ⟨rfl, Below.refl _ _⟩
      · have t1 : (bc.2 == 0) = true := by simp [e1]
        have t2 : (ab.2 == 0) = false := by simp [e2]
        clear L1 L2 L3 e1 e2
        go_wp2_with fail
        go_meet
        exact ⟨rfl, Below.refl _ _⟩
    · have t1 : (bc.2 == 0) = false := by simp [e1]
      clear L1 L2 L3 e1
      go_wp2_with fail
      go_meet
      exact ⟨rfl, Below.refl _ _⟩
  case rest =>
  obtain ⟨hu, hbc'⟩ := hcut
  subst hu
  have hbc := hbc'.out
  clear hbc'
  have N_a := Lib.hid (H_a.out.belowSize hbc)
  have N_b := Lib.hid (H_b.out.belowSize hbc)
  have N_c := Lib.hid (H_c.out.belowSize hbc)
  have N_bc := Lib.hid (H_bc.out.belowSize hbc)
  have N_ab := Lib.hid (H_ab.out.belowSize hbc)
  have N_ac := Lib.hid (H_ac.out.belowSize hbc)
  have N_ml := Lib.hid (H_ml.out.belowSize hbc)
  have N_mr := Lib.hid (H_mr.out.belowSize hbc)
  clear H_a H_b H_c H_bc H_ab H_ac H_ml H_mr
  have H_a := N_a; clear N_a
  have H_b := N_b; clear N_b
  have H_c := N_c; clear N_c
  have H_bc := N_bc; clear N_bc
  have H_ab := N_ab; clear N_ab
  have H_ac := N_ac; clear N_ac
  have H_ml := N_ml; clear N_ml
  have H_mr := N_mr; clear N_mr
  have HB10 := Lib.hid (bot HB9.out hbc)
  clear HB9
  clear hbc
  obtain ⟨w10, hw10⟩ : ∃ w10, w10 = wc := ⟨_, rfl⟩
  subst hw10
  clear L1
  go_wp2_with fail
  refine (C_kx.out _ _ _ _ _ _ _ _ _ H_a.out H_bc.out).mono ?_
  rintro e w11 ⟨v11, rfl, ho11, hb11⟩
  have hs11 := ho11.slvB
  obtain ⟨A_kx, c_kx, rfl, _, _⟩ := hs11.val
  obtain ⟨n_kx, hn11⟩ : ∃ n, n = kx.1.length := ⟨_, rfl⟩
  rw [← hn11] at hs11 ⊢
  have Hn_kx := Lib.hid hn11
  clear ho11 hn11
  have N_a := Lib.hid (H_a.out.belowSize hb11)
  have N_b := Lib.hid (H_b.out.belowSize hb11)
  have N_c := Lib.hid (H_c.out.belowSize hb11)
  have N_bc := Lib.hid (H_bc.out.belowSize hb11)
  have N_ab := Lib.hid (H_ab.out.belowSize hb11)
  have N_ac := Lib.hid (H_ac.out.belowSize hb11)
  have N_ml := Lib.hid (H_ml.out.belowSize hb11)
  have N_mr := Lib.hid (H_mr.out.belowSize hb11)
  clear H_a H_b H_c H_bc H_ab H_ac H_ml H_mr
  have H_a := N_a; clear N_a
  have H_b := N_b; clear N_b
  have H_c := N_c; clear N_c
  have H_bc := N_bc; clear N_bc
  have H_ab := N_ab; clear N_ab
  have H_ac := N_ac; clear N_ac
  have H_ml := N_ml; clear N_ml
  have H_mr := N_mr; clear N_mr
  have HB11 := Lib.hid (bot HB10.out hb11)
  clear HB10
  have H_kx := Lib.hid hs11
  clear hs11 hb11 C_kx
  go_wp2_with fail
  refine (C_ky.out _ _ _ _ _ _ _ _ _ H_a.out H_b.out).mono ?_
  rintro e w12 ⟨v12, rfl, ho12, hb12⟩
  have hs12 := ho12.slvB
  obtain ⟨A_ky, c_ky, rfl, _, _⟩ := hs12.val
  obtain ⟨n_ky, hn12⟩ : ∃ n, n = ky.1.length := ⟨_, rfl⟩
  rw [← hn12] at hs12 ⊢
  have Hn_ky := Lib.hid hn12
  clear ho12 hn12
  have N_a := Lib.hid (H_a.out.belowSize hb12)
  have N_b := Lib.hid (H_b.out.belowSize hb12)
  have N_c := Lib.hid (H_c.out.belowSize hb12)
  have N_bc := Lib.hid (H_bc.out.belowSize hb12)
  have N_ab := Lib.hid (H_ab.out.belowSize hb12)
  have N_ac := Lib.hid (H_ac.out.belowSize hb12)
  have N_ml := Lib.hid (H_ml.out.belowSize hb12)
  have N_mr := Lib.hid (H_mr.out.belowSize hb12)
  have N_kx := Lib.hid (H_kx.out.belowSize hb12)
  clear H_a H_b H_c H_bc H_ab H_ac H_ml H_mr H_kx
  have H_a := N_a; clear N_a
  have H_b := N_b; clear N_b
  have H_c := N_c; clear N_c
  have H_bc := N_bc; clear N_bc
  have H_ab := N_ab; clear N_ab
  have H_ac := N_ac; clear N_ac
  have H_ml := N_ml; clear N_ml
  have H_mr := N_mr; clear N_mr
  have H_kx := N_kx; clear N_kx
  have HB12 := Lib.hid (bot HB11.out hb12)
  clear HB11
  have H_ky := Lib.hid hs12
  clear hs12 hb12 C_ky
  go_wp2_with fail
  refine (C_kz.out _ _ _ _ _ _ _ _ _ H_ky.out H_c.out).mono ?_
  rintro e w13 ⟨v13, rfl, ho13, hb13⟩
  have hs13 := ho13.slvB
  obtain ⟨A_kz, c_kz, rfl, _, _⟩ := hs13.val
  obtain ⟨n_kz, hn13⟩ : ∃ n, n = kz.1.length := ⟨_, rfl⟩
  rw [← hn13] at hs13 ⊢
  have Hn_kz := Lib.hid hn13
  clear ho13 hn13
  have N_a := Lib.hid (H_a.out.belowSize hb13)
  have N_b := Lib.hid (H_b.out.belowSize hb13)
  have N_c := Lib.hid (H_c.out.belowSize hb13)
  have N_bc := Lib.hid (H_bc.out.belowSize hb13)
  have N_ab := Lib.hid (H_ab.out.belowSize hb13)
  have N_ac := Lib.hid (H_ac.out.belowSize hb13)
  have N_ml := Lib.hid (H_ml.out.belowSize hb13)
  have N_mr := Lib.hid (H_mr.out.belowSize hb13)
  have N_kx := Lib.hid (H_kx.out.belowSize hb13)
  have N_ky := Lib.hid (H_ky.out.belowSize hb13)
  clear H_a H_b H_c H_bc H_ab H_ac H_ml H_mr H_kx H_ky
  have H_a := N_a; clear N_a
  have H_b := N_b; clear N_b
  have H_c := N_c; clear N_c
  have H_bc := N_bc; clear N_bc
  have H_ab := N_ab; clear N_ab
  have H_ac := N_ac; clear N_ac
  have H_ml := N_ml; clear N_ml
  have H_mr := N_mr; clear N_mr
  have H_kx := N_kx; clear N_kx
  have H_ky := N_ky; clear N_ky
  have HB13 := Lib.hid (bot HB12.out hb13)
  clear HB12
  have H_kz := Lib.hid hs13
  clear hs13 hb13 C_kz
  go_upto_region 15 with fail
  go_cut [129] from 113 (fun u wx => u = .bool false ∧ Hid (Below w13.heap.size w13 wx))
  case first =>
    by_cases e1 : bc.2 = 0
    · by_cases e2 : ky.2 = 0
      · have hm := L2.out (by simp) (by simp) (by simp) e1 e2
        subst hm
        have t1 : (bc.2 == 0) = true := by simp [e1]
        have t2 : (ky.2 == 0) = true := by simp [e2]
        have t4 : (kx.2 != kx.2) = false := by simp
        have t5 : (kx.2 == kx.2) = true := by simp
        clear e1 e2 L2 L3
        go_wp2_with fail
        refine (same_yes _ _ _ _ _ _ kx.1 _ _ _ H_kx.out H_kz.out).mono ?_
        rintro e wz ⟨rfl, hbz⟩
        go_wp2_with fail
        go_meet
        exact ⟨rfl, hbz⟩
      · have t1 : (bc.2 == 0) = true := by simp [e1]
        have t2 : (ky.2 == 0) = false := by simp [e2]
        clear L2 L3 e1 e2
        go_wp2_with fail
        go_meet
        exact ⟨rfl, Below.refl _ _⟩
    · have t1 : (bc.2 == 0) = false := by simp [e1]
      clear L2 L3 e1
      go_wp2_with fail
      go_meet
      exact ⟨rfl, Below.refl _ _⟩
  case rest =>
  obtain ⟨hu, hbc'⟩ := hcut
  subst hu
  have hbc := hbc'.out
  clear hbc'
  have N_a := Lib.hid (H_a.out.belowSize hbc)
  have N_b := Lib.hid (H_b.out.belowSize hbc)
  have N_c := Lib.hid (H_c.out.belowSize hbc)
  have N_bc := Lib.hid (H_bc.out.belowSize hbc)
  have N_ab := Lib.hid (H_ab.out.belowSize hbc)
  have N_ac := Lib.hid (H_ac.out.belowSize hbc)
  have N_ml := Lib.hid (H_ml.out.belowSize hbc)
  have N_mr := Lib.hid (H_mr.out.belowSize hbc)
  have N_kx := Lib.hid (H_kx.out.belowSize hbc)
  have N_ky := Lib.hid (H_ky.out.belowSize hbc)
  have N_kz := Lib.hid (H_kz.out.belowSize hbc)
  clear H_a H_b H_c H_bc H_ab H_ac H_ml H_mr H_kx H_ky H_kz
  have H_a := N_a; clear N_a
  have H_b := N_b; clear N_b
  have H_c := N_c; clear N_c
  have H_bc := N_bc; clear N_bc
  have H_ab := N_ab; clear N_ab
  have H_ac := N_ac; clear N_ac
  have H_ml := N_ml; clear N_ml
  have H_mr := N_mr; clear N_mr
  have H_kx := N_kx; clear N_kx
  have H_ky := N_ky; clear N_ky
  have H_kz := N_kz; clear N_kz
  have HB14 := Lib.hid (bot HB13.out hbc)
  clear HB13
  clear hbc
  obtain ⟨w14, hw14⟩ : ∃ w14, w14 = wc := ⟨_, rfl⟩
  subst hw14
  clear L2
  go_wp2_with fail
  refine (C_mp.out _ _ _ _ _ _ _ _ _ H_ab.out H_c.out).mono ?_
  rintro e w15 ⟨v15, rfl, ho15, hb15⟩
  have hs15 := ho15.slvB
  obtain ⟨A_mp, c_mp, rfl, _, _⟩ := hs15.val
  obtain ⟨n_mp, hn15⟩ : ∃ n, n = mp.1.length := ⟨_, rfl⟩
  rw [← hn15] at hs15 ⊢
  have Hn_mp := Lib.hid hn15
  clear ho15 hn15
  have N_a := Lib.hid (H_a.out.belowSize hb15)
  have N_b := Lib.hid (H_b.out.belowSize hb15)
  have N_c := Lib.hid (H_c.out.belowSize hb15)
  have N_bc := Lib.hid (H_bc.out.belowSize hb15)
  have N_ab := Lib.hid (H_ab.out.belowSize hb15)
  have N_ac := Lib.hid (H_ac.out.belowSize hb15)
  have N_ml := Lib.hid (H_ml.out.belowSize hb15)
  have N_mr := Lib.hid (H_mr.out.belowSize hb15)
  have N_kx := Lib.hid (H_kx.out.belowSize hb15)
  have N_ky := Lib.hid (H_ky.out.belowSize hb15)
  have N_kz := Lib.hid (H_kz.out.belowSize hb15)
  clear H_a H_b H_c H_bc H_ab H_ac H_ml H_mr H_kx H_ky H_kz
  have H_a := N_a; clear N_a
  have H_b := N_b; clear N_b
  have H_c := N_c; clear N_c
  have H_bc := N_bc; clear N_bc
  have H_ab := N_ab; clear N_ab
  have H_ac := N_ac; clear N_ac
  have H_ml := N_ml; clear N_ml
  have H_mr := N_mr; clear N_mr
  have H_kx := N_kx; clear N_kx
  have H_ky := N_ky; clear N_ky
  have H_kz := N_kz; clear N_kz
  have HB15 := Lib.hid (bot HB14.out hb15)
  clear HB14
  have H_mp := Lib.hid hs15
  clear hs15 hb15 C_mp
  go_wp2_with fail
  refine (C_bm.out _ _ _ _ _ _ _ _ _ H_b.out H_c.out).mono ?_
  rintro e w16 ⟨v16, rfl, ho16, hb16⟩
  have hs16 := ho16.slvB
  obtain ⟨A_bm, c_bm, rfl, _, _⟩ := hs16.val
  obtain ⟨n_bm, hn16⟩ : ∃ n, n = bm.1.length := ⟨_, rfl⟩
  rw [← hn16] at hs16 ⊢
  have Hn_bm := Lib.hid hn16
  clear ho16 hn16
  have N_a := Lib.hid (H_a.out.belowSize hb16)
  have N_b := Lib.hid (H_b.out.belowSize hb16)
  have N_c := Lib.hid (H_c.out.belowSize hb16)
  have N_bc := Lib.hid (H_bc.out.belowSize hb16)
  have N_ab := Lib.hid (H_ab.out.belowSize hb16)
  have N_ac := Lib.hid (H_ac.out.belowSize hb16)
  have N_ml := Lib.hid (H_ml.out.belowSize hb16)
  have N_mr := Lib.hid (H_mr.out.belowSize hb16)
  have N_kx := Lib.hid (H_kx.out.belowSize hb16)
  have N_ky := Lib.hid (H_ky.out.belowSize hb16)
  have N_kz := Lib.hid (H_kz.out.belowSize hb16)
  have N_mp := Lib.hid (H_mp.out.belowSize hb16)
  clear H_a H_b H_c H_bc H_ab H_ac H_ml H_mr H_kx H_ky H_kz H_mp
  have H_a := N_a; clear N_a
  have H_b := N_b; clear N_b
  have H_c := N_c; clear N_c
  have H_bc := N_bc; clear N_bc
  have H_ab := N_ab; clear N_ab
  have H_ac := N_ac; clear N_ac
  have H_ml := N_ml; clear N_ml
  have H_mr := N_mr; clear N_mr
  have H_kx := N_kx; clear N_kx
  have H_ky := N_ky; clear N_ky
  have H_kz := N_kz; clear N_kz
  have H_mp := N_mp; clear N_mp
  have HB16 := Lib.hid (bot HB15.out hb16)
  clear HB15
  have H_bm := Lib.hid hs16
  clear hs16 hb16 C_bm
  go_wp2_with fail
  refine (C_mq.out _ _ _ _ _ _ _ _ _ H_a.out H_bm.out).mono ?_
  rintro e w17 ⟨v17, rfl, ho17, hb17⟩
  have hs17 := ho17.slvB
  obtain ⟨A_mq, c_mq, rfl, _, _⟩ := hs17.val
  obtain ⟨n_mq, hn17⟩ : ∃ n, n = mq.1.length := ⟨_, rfl⟩
  rw [← hn17] at hs17 ⊢
  have Hn_mq := Lib.hid hn17
  clear ho17 hn17
  have N_a := Lib.hid (H_a.out.belowSize hb17)
  have N_b := Lib.hid (H_b.out.belowSize hb17)
  have N_c := Lib.hid (H_c.out.belowSize hb17)
  have N_bc := Lib.hid (H_bc.out.belowSize hb17)
  have N_ab := Lib.hid (H_ab.out.belowSize hb17)
  have N_ac := Lib.hid (H_ac.out.belowSize hb17)
  have N_ml := Lib.hid (H_ml.out.belowSize hb17)
  have N_mr := Lib.hid (H_mr.out.belowSize hb17)
  have N_kx := Lib.hid (H_kx.out.belowSize hb17)
  have N_ky := Lib.hid (H_ky.out.belowSize hb17)
  have N_kz := Lib.hid (H_kz.out.belowSize hb17)
  have N_mp := Lib.hid (H_mp.out.belowSize hb17)
  have N_bm := Lib.hid (H_bm.out.belowSize hb17)
  clear H_a H_b H_c H_bc H_ab H_ac H_ml H_mr H_kx H_ky H_kz H_mp H_bm
  have H_a := N_a; clear N_a
  have H_b := N_b; clear N_b
  have H_c := N_c; clear N_c
  have H_bc := N_bc; clear N_bc
  have H_ab := N_ab; clear N_ab
  have H_ac := N_ac; clear N_ac
  have H_ml := N_ml; clear N_ml
  have H_mr := N_mr; clear N_mr
  have H_kx := N_kx; clear N_kx
  have H_ky := N_ky; clear N_ky
  have H_kz := N_kz; clear N_kz
  have H_mp := N_mp; clear N_mp
  have H_bm := N_bm; clear N_bm
  have HB17 := Lib.hid (bot HB16.out hb17)
  clear HB16
  have H_mq := Lib.hid hs17
  clear hs17 hb17 C_mq
  by_cases e1 : ab.2 = 0
  · by_cases e2 : bm.2 = 0
    · have hm := L3.out (by simp) (by simp) (by simp) e1 e2
      subst hm
      have t1 : (ab.2 != 0) = false := by simp [e1]
      have t1' : (ab.2 == 0) = true := by simp [e1]
      have t2 : (bm.2 != 0) = false := by simp [e2]
      have t2' : (bm.2 == 0) = true := by simp [e2]
      have t4 : (mp.2 != mp.2) = false := by simp
      have t5 : (mp.2 == mp.2) = true := by simp
      clear e1 e2 L3
      go_wp2_with fail
      refine (same_yes _ _ _ _ _ _ mp.1 _ _ _ H_mp.out H_mq.out).mono ?_
      rintro e wz ⟨rfl, hbz⟩
      go_wp2_with fail
      go_ret
      exact ⟨rfl, bot HB17.out hbz⟩
    · have t1 : (ab.2 != 0) = false := by simp [e1]
      have t1' : (ab.2 == 0) = true := by simp [e1]
      have t2 : (bm.2 != 0) = true := by simp [e2]
      have t2' : (bm.2 == 0) = false := by simp [e2]
      clear L3 e1 e2
      go_wp2_with fail
      go_ret
      exact ⟨rfl, HB17.out⟩
  · have t1 : (ab.2 != 0) = true := by simp [e1]
    have t1' : (ab.2 == 0) = false := by simp [e1]
    clear L3 e1
    go_wp2_with fail
    go_ret
    exact ⟨rfl, HB17.out⟩
end Go.Proofs.YtghihopmiagcpaaGreatDoor
