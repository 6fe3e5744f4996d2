/-
  halyardlaw03.SpanRules, walked.
-/
import Derived.Test.YtghihopmiagcpaaGreatDoorOver
import Derived.Deep.CutRange
set_option autoImplicit false
set_option relaxedAutoImplicit false
set_option linter.unusedVariables false
set_option linter.unusedSimpArgs false
namespace Go.Proofs.YtghihopmiagcpaaGreatDoor
open Go.Rows Go.RowKit Go.Shelf Go.Sort

set_option maxHeartbeats 4000000 in
set_option maxRecDepth 100000 in
theorem spanRules_law (A0 : Option Addr) (n0 c0 : Nat) (a : List Spn) (A1 : Option Addr) (n1 c1 : Nat) (b : List Spn) (w : World) (hv : Vok w) (ha : SlV rSpn w (fun b => b < w.heap.size) a (.slice A0 n0 c0)) (hla : a.length * 9 ≤ 1048576) (hb : SlV rSpn w (fun b => b < w.heap.size) b (.slice A1 n1 c1)) (hlb : b.length * 9 ≤ 1048576) :
    Calls Tryz.prog 10 #[.slice A0 n0 c0, .slice A1 n1 c1] w fun e w' => e = .returned (.bool true) ∧ Below w.heap.size w w' := by
  have Hv := Lib.hid hv
  have H_a := Lib.hid ha
  have H_b := Lib.hid hb
  have hna := ha.n_eq
  have Hna := Lib.hid hna
  clear ha hb hla hlb hv hna
  have CS : Hid (∀ W A n c B m d S T l, SlV rSpn W S l (.slice A n c) → SlV rSpn W T l (.slice B m d) → Calls Tryz.prog 19 #[.slice A n c, .slice B m d] W fun e w' => e = .returned (.bool true) ∧ Below W.heap.size W w') := fun W A n c B m d S T l h1 h2 => same_yes A B n m c d l W S T h1 h2
  obtain ⟨m1, h_m1⟩ : ∃ q, q = foldQ 109 a b := ⟨_, rfl⟩
  have C_m1 : Hid (∀ W A n k1 B m k2 S T, SlV rSpn W S a (.slice A n k1) → SlV rSpn W T b (.slice B m k2) → Calls Tryz.prog 26 #[.slice A n k1, .slice B m k2] W (Made W m1)) := fun W A n k1 B m k2 S T hx hy => by rw [h_m1]; exact meet_any A B n m k1 k2 _ _ W S T hx hy
  obtain ⟨m2, h_m2⟩ : ∃ q, q = foldQ 109 b a := ⟨_, rfl⟩
  have C_m2 : Hid (∀ W A n k1 B m k2 S T, SlV rSpn W S b (.slice A n k1) → SlV rSpn W T a (.slice B m k2) → Calls Tryz.prog 26 #[.slice A n k1, .slice B m k2] W (Made W m2)) := fun W A n k1 B m k2 S T hx hy => by rw [h_m2]; exact meet_any A B n m k1 k2 _ _ W S T hx hy
  obtain ⟨j1, h_j1⟩ : ∃ q, q = foldQ 106 a b := ⟨_, rfl⟩
  have C_j1 : Hid (∀ W A n k1 B m k2 S T, SlV rSpn W S a (.slice A n k1) → SlV rSpn W T b (.slice B m k2) → Calls Tryz.prog 25 #[.slice A n k1, .slice B m k2] W (Made W j1)) := fun W A n k1 B m k2 S T hx hy => by rw [h_j1]; exact join2_any A B n m k1 k2 _ _ W S T hx hy
  obtain ⟨j2, h_j2⟩ : ∃ q, q = foldQ 106 b a := ⟨_, rfl⟩
  have C_j2 : Hid (∀ W A n k1 B m k2 S T, SlV rSpn W S b (.slice A n k1) → SlV rSpn W T a (.slice B m k2) → Calls Tryz.prog 25 #[.slice A n k1, .slice B m k2] W (Made W j2)) := fun W A n k1 B m k2 S T hx hy => by rw [h_j2]; exact join2_any A B n m k1 k2 _ _ W S T hx hy
  obtain ⟨ms, h_ms⟩ : ∃ q, q = foldQ 109 a a := ⟨_, rfl⟩
  have C_ms : Hid (∀ W A n k1 B m k2 S T, SlV rSpn W S a (.slice A n k1) → SlV rSpn W T a (.slice B m k2) → Calls Tryz.prog 26 #[.slice A n k1, .slice B m k2] W (Made W ms)) := fun W A n k1 B m k2 S T hx hy => by rw [h_ms]; exact meet_any A B n m k1 k2 _ _ W S T hx hy
  obtain ⟨ks, h_ks⟩ : ∃ q, q = foldQ 99 a a := ⟨_, rfl⟩
  have C_ks : Hid (∀ W A n k1 B m k2 S T, SlV rSpn W S a (.slice A n k1) → SlV rSpn W T a (.slice B m k2) → Calls Tryz.prog 29 #[.slice A n k1, .slice B m k2] W (Made W ks)) := fun W A n k1 B m k2 S T hx hy => by rw [h_ks]; exact cut_any A B n m k1 k2 _ _ W S T hx hy
  obtain ⟨kn, h_kn⟩ : ∃ q, q = foldQ 99 allS a := ⟨_, rfl⟩
  have C_kn : Hid (∀ W A n k1 B m k2 S T, SlV rSpn W S allS (.slice A n k1) → SlV rSpn W T a (.slice B m k2) → Calls Tryz.prog 29 #[.slice A n k1, .slice B m k2] W (Made W kn)) := fun W A n k1 B m k2 S T hx hy => by rw [h_kn]; exact cut_any A B n m k1 k2 _ _ W S T hx hy
  obtain ⟨kb, h_kb⟩ : ∃ q, q = foldQ 99 allS kn.1 := ⟨_, rfl⟩
  have C_kb : Hid (∀ W A n k1 B m k2 S T, SlV rSpn W S allS (.slice A n k1) → SlV rSpn W T kn.1 (.slice B m k2) → Calls Tryz.prog 29 #[.slice A n k1, .slice B m k2] W (Made W kb)) := fun W A n k1 B m k2 S T hx hy => by rw [h_kb]; exact cut_any A B n m k1 k2 _ _ W S T hx hy
  obtain ⟨kd, h_kd⟩ : ∃ q, q = foldQ 99 a b := ⟨_, rfl⟩
  have C_kd : Hid (∀ W A n k1 B m k2 S T, SlV rSpn W S a (.slice A n k1) → SlV rSpn W T b (.slice B m k2) → Calls Tryz.prog 29 #[.slice A n k1, .slice B m k2] W (Made W kd)) := fun W A n k1 B m k2 S T hx hy => by rw [h_kd]; exact cut_any A B n m k1 k2 _ _ W S T hx hy
  obtain ⟨ja, h_ja⟩ : ∃ q, q = foldQ 106 m1.1 kd.1 := ⟨_, rfl⟩
  have C_ja : Hid (∀ W A n k1 B m k2 S T, SlV rSpn W S m1.1 (.slice A n k1) → SlV rSpn W T kd.1 (.slice B m k2) → Calls Tryz.prog 25 #[.slice A n k1, .slice B m k2] W (Made W ja)) := fun W A n k1 B m k2 S T hx hy => by rw [h_ja]; exact join2_any A B n m k1 k2 _ _ W S T hx hy
  have E1 : Hid (m2 = m1) := by unfold Hid; rw [h_m1, h_m2]; exact meet_swap a b
  have E2 : Hid (j2 = j1) := by unfold Hid; rw [h_j1, h_j2]; exact join_swap a b
  have L1 : Hid (spansB a = true → ms = (a, 0) ∧ ks = ([], 0)) := fun ma => ⟨by rw [h_ms]; exact meet_self ma, by rw [h_ks]; exact cut_self ma⟩
  have L2 : Hid (spansB a = true → kn.2 = 0 → kb = (a, 0)) := fun ma e => by rw [h_kn] at e; rw [h_kb, h_kn]; exact cut_back ma e
  have L3 : Hid (spansB a = true → spansB b = true → m1.2 = 0 → kd.2 = 0 → ja = (a, 0)) := fun ma mb e1 e2 => by rw [h_m1] at e1; rw [h_kd] at e2; rw [h_ja, h_m1, h_kd]; exact parts_all ma mb e1 e2
  clear h_m1 h_m2 h_j1 h_j2 h_ms h_ks h_kn h_kb h_kd h_ja
  obtain ⟨pa, h_pa⟩ : ∃ p, p = spansB a := ⟨_, rfl⟩
  have CM_a : Hid (∀ W A n k1 S, SlV rSpn W S a (.slice A n k1) → Calls Tryz.prog 12 #[.slice A n k1] W fun e w' => e = .returned (.bool pa) ∧ Below W.heap.size W w') := fun W A n k1 S h => by rw [h_pa]; exact spanMay_any A n k1 a W S h
  obtain ⟨pb, h_pb⟩ : ∃ p, p = spansB b := ⟨_, rfl⟩
  have CM_b : Hid (∀ W A n k1 S, SlV rSpn W S b (.slice A n k1) → Calls Tryz.prog 12 #[.slice A n k1] W fun e w' => e = .returned (.bool pb) ∧ Below W.heap.size W w') := fun W A n k1 S h => by rw [h_pb]; exact spanMay_any A n k1 b W S h
  rw [← h_pa] at L1 L2 L3
  rw [← h_pb] at L3
  clear h_pa h_pb
  have e1 := E1.out
  have e2 := E2.out
  clear E1 E2
  subst e1 e2
  go_enter Tryz.func10, Tryz.ntmps10
  go_wp2_with fail
  refine (known_any _ Hv.out).mono ?_
  rintro e w1 ⟨rfl, hb1⟩
  have N_a := Lib.hid (H_a.out.belowSize hb1)
  have N_b := Lib.hid (H_b.out.belowSize hb1)
  clear H_a H_b
  have H_a := N_a; clear N_a
  have H_b := N_b; clear N_b
  have HB1 := Lib.hid hb1
  clear hb1
  clear Hv
  go_wp2_with fail
  refine (CM_a.out _ _ _ _ _ H_a.out).mono ?_
  rintro e w2 ⟨rfl, hb2⟩
  have N_a := Lib.hid (H_a.out.belowSize hb2)
  have N_b := Lib.hid (H_b.out.belowSize hb2)
  clear H_a H_b
  have H_a := N_a; clear N_a
  have H_b := N_b; clear N_b
  have HB2 := Lib.hid (bot HB1.out hb2)
  clear HB1
  clear hb2
  clear CM_a
  cases pa with
  | false =>
    go_wp2_with fail
    go_ret
    exact ⟨rfl, HB2.out⟩
  | true =>
  go_wp2_with fail
  refine (CM_b.out _ _ _ _ _ H_b.out).mono ?_
  rintro e w3 ⟨rfl, hb3⟩
  have N_a := Lib.hid (H_a.out.belowSize hb3)
  have N_b := Lib.hid (H_b.out.belowSize hb3)
  clear H_a H_b
  have H_a := N_a; clear N_a
  have H_b := N_b; clear N_b
  have HB3 := Lib.hid (bot HB2.out hb3)
  clear HB2
  clear hb3
  clear CM_b
  cases pb with
  | false =>
    go_wp2_with fail
    go_ret
    exact ⟨rfl, HB3.out⟩
  | true =>
  obtain ⟨z1, z2⟩ := L1.out (by simp)
  subst z1 z2
  clear L1
  go_wp2_with fail
  refine (C_m1.out _ _ _ _ _ _ _ _ _ H_a.out H_b.out).mono ?_
  rintro e w4 ⟨v4, rfl, ho4, hb4⟩
  have hs4 := ho4.slvB
  obtain ⟨A_m1, c_m1, rfl, _, _⟩ := hs4.val
  obtain ⟨n_m1, hn4⟩ : ∃ n, n = (m2).1.length := ⟨_, rfl⟩
  rw [← hn4] at hs4 ⊢
  have Hn_m1 := Lib.hid hn4
  clear ho4 hn4
  have N_a := Lib.hid (H_a.out.belowSize hb4)
  have N_b := Lib.hid (H_b.out.belowSize hb4)
  clear H_a H_b
  have H_a := N_a; clear N_a
  have H_b := N_b; clear N_b
  have HB4 := Lib.hid (bot HB3.out hb4)
  clear HB3
  have H_m1 := Lib.hid hs4
  clear hs4 hb4
  go_wp2_with fail
  refine (C_m2.out _ _ _ _ _ _ _ _ _ H_b.out H_a.out).mono ?_
  rintro e w5 ⟨v5, rfl, ho5, hb5⟩
  have hs5 := ho5.slvB
  obtain ⟨A_m2, c_m2, rfl, _, _⟩ := hs5.val
  obtain ⟨n_m2, hn5⟩ : ∃ n, n = (m2).1.length := ⟨_, rfl⟩
  rw [← hn5] at hs5 ⊢
  have Hn_m2 := Lib.hid hn5
  clear ho5 hn5
  have N_a := Lib.hid (H_a.out.belowSize hb5)
  have N_b := Lib.hid (H_b.out.belowSize hb5)
  have N_m1 := Lib.hid (H_m1.out.belowSize hb5)
  clear H_a H_b H_m1
  have H_a := N_a; clear N_a
  have H_b := N_b; clear N_b
  have H_m1 := N_m1; clear N_m1
  have HB5 := Lib.hid (bot HB4.out hb5)
  clear HB4
  have H_m2 := Lib.hid hs5
  clear hs5 hb5
  go_wp2_with fail
  refine (C_j1.out _ _ _ _ _ _ _ _ _ H_a.out H_b.out).mono ?_
  rintro e w6 ⟨v6, rfl, ho6, hb6⟩
  have hs6 := ho6.slvB
  obtain ⟨A_j1, c_j1, rfl, _, _⟩ := hs6.val
  obtain ⟨n_j1, hn6⟩ : ∃ n, n = (j2).1.length := ⟨_, rfl⟩
  rw [← hn6] at hs6 ⊢
  have Hn_j1 := Lib.hid hn6
  clear ho6 hn6
  have N_a := Lib.hid (H_a.out.belowSize hb6)
  have N_b := Lib.hid (H_b.out.belowSize hb6)
  have N_m1 := Lib.hid (H_m1.out.belowSize hb6)
  have N_m2 := Lib.hid (H_m2.out.belowSize hb6)
  clear H_a H_b H_m1 H_m2
  have H_a := N_a; clear N_a
  have H_b := N_b; clear N_b
  have H_m1 := N_m1; clear N_m1
  have H_m2 := N_m2; clear N_m2
  have HB6 := Lib.hid (bot HB5.out hb6)
  clear HB5
  have H_j1 := Lib.hid hs6
  clear hs6 hb6
  go_wp2_with fail
  refine (C_j2.out _ _ _ _ _ _ _ _ _ H_b.out H_a.out).mono ?_
  rintro e w7 ⟨v7, rfl, ho7, hb7⟩
  have hs7 := ho7.slvB
  obtain ⟨A_j2, c_j2, rfl, _, _⟩ := hs7.val
  obtain ⟨n_j2, hn7⟩ : ∃ n, n = (j2).1.length := ⟨_, rfl⟩
  rw [← hn7] at hs7 ⊢
  have Hn_j2 := Lib.hid hn7
  clear ho7 hn7
  have N_a := Lib.hid (H_a.out.belowSize hb7)
  have N_b := Lib.hid (H_b.out.belowSize hb7)
  have N_m1 := Lib.hid (H_m1.out.belowSize hb7)
  have N_m2 := Lib.hid (H_m2.out.belowSize hb7)
  have N_j1 := Lib.hid (H_j1.out.belowSize hb7)
  clear H_a H_b H_m1 H_m2 H_j1
  have H_a := N_a; clear N_a
  have H_b := N_b; clear N_b
  have H_m1 := N_m1; clear N_m1
  have H_m2 := N_m2; clear N_m2
  have H_j1 := N_j1; clear N_j1
  have HB7 := Lib.hid (bot HB6.out hb7)
  clear HB6
  have H_j2 := Lib.hid hs7
  clear hs7 hb7
  go_upto_region 9 with fail
  go_cut [78] from 59 (fun u wx => u = .bool false ∧ Hid (Below w7.heap.size w7 wx))
  case first =>
    have t1 : (m2.2 != m2.2) = false := by simp
    have t1' : (m2.2 == m2.2) = true := by simp
    have t2 : (j2.2 != j2.2) = false := by simp
    have t2' : (j2.2 == j2.2) = true := by simp
    clear L2 L3
    go_wp2_with fail
    refine (CS.out _ _ _ _ _ _ _ _ _ _ H_m1.out H_m2.out).mono ?_
    rintro e wz ⟨rfl, hbz⟩
    have Hz1 := Lib.hid (H_j1.out.belowSize hbz)
    have Hz2 := Lib.hid (H_j2.out.belowSize hbz)
    go_wp2_with fail
    refine (CS.out _ _ _ _ _ _ _ _ _ _ Hz1.out Hz2.out).mono ?_
    rintro e wy ⟨rfl, hby⟩
    go_wp2_with fail
    go_meet
    exact ⟨rfl, bot hbz hby⟩
  case rest =>
  obtain ⟨hu, hbc'⟩ := hcut
  subst hu
  have hbc := hbc'.out
  clear hbc'
  have N_a := Lib.hid (H_a.out.belowSize hbc)
  have N_b := Lib.hid (H_b.out.belowSize hbc)
  have N_m1 := Lib.hid (H_m1.out.belowSize hbc)
  have N_m2 := Lib.hid (H_m2.out.belowSize hbc)
  have N_j1 := Lib.hid (H_j1.out.belowSize hbc)
  have N_j2 := Lib.hid (H_j2.out.belowSize hbc)
  clear H_a H_b H_m1 H_m2 H_j1 H_j2
  have H_a := N_a; clear N_a
  have H_b := N_b; clear N_b
  have H_m1 := N_m1; clear N_m1
  have H_m2 := N_m2; clear N_m2
  have H_j1 := N_j1; clear N_j1
  have H_j2 := N_j2; clear N_j2
  have HB8 := Lib.hid (bot HB7.out hbc)
  clear HB7
  clear hbc
  obtain ⟨w8, hw8⟩ : ∃ w8, w8 = wc := ⟨_, rfl⟩
  subst hw8
  go_wp2_with fail
  refine (C_ms.out _ _ _ _ _ _ _ _ _ H_a.out H_a.out).mono ?_
  rintro e w9 ⟨v9, rfl, ho9, hb9⟩
  have hs9 := ho9.slvB
  obtain ⟨A_ms, c_ms, rfl, _, _⟩ := hs9.val
  obtain ⟨n_ms, hn9⟩ : ∃ n, n = (((a, 0) : List Spn × Int)).1.length := ⟨_, rfl⟩
  rw [← hn9] at hs9 ⊢
  have Hn_ms := Lib.hid hn9
  clear ho9 hn9
  have N_a := Lib.hid (H_a.out.belowSize hb9)
  have N_b := Lib.hid (H_b.out.belowSize hb9)
  have N_m1 := Lib.hid (H_m1.out.belowSize hb9)
  have N_m2 := Lib.hid (H_m2.out.belowSize hb9)
  have N_j1 := Lib.hid (H_j1.out.belowSize hb9)
  have N_j2 := Lib.hid (H_j2.out.belowSize hb9)
  clear H_a H_b H_m1 H_m2 H_j1 H_j2
  have H_a := N_a; clear N_a
  have H_b := N_b; clear N_b
  have H_m1 := N_m1; clear N_m1
  have H_m2 := N_m2; clear N_m2
  have H_j1 := N_j1; clear N_j1
  have H_j2 := N_j2; clear N_j2
  have HB9 := Lib.hid (bot HB8.out hb9)
  clear HB8
  have H_ms := Lib.hid hs9
  clear hs9 hb9
  go_wp2_with fail
  refine (C_ks.out _ _ _ _ _ _ _ _ _ H_a.out H_a.out).mono ?_
  rintro e w10 ⟨v10, rfl, ho10, hb10⟩
  have hs10 := ho10.slvB
  obtain ⟨A_ks, c_ks, rfl, _, _⟩ := hs10.val
  obtain ⟨n_ks, hn10⟩ : ∃ n, n = ((([], 0) : List Spn × Int)).1.length := ⟨_, rfl⟩
  rw [← hn10] at hs10 ⊢
  have Hn_ks := Lib.hid hn10
  clear ho10 hn10
  have N_a := Lib.hid (H_a.out.belowSize hb10)
  have N_b := Lib.hid (H_b.out.belowSize hb10)
  have N_m1 := Lib.hid (H_m1.out.belowSize hb10)
  have N_m2 := Lib.hid (H_m2.out.belowSize hb10)
  have N_j1 := Lib.hid (H_j1.out.belowSize hb10)
  have N_j2 := Lib.hid (H_j2.out.belowSize hb10)
  have N_ms := Lib.hid (H_ms.out.belowSize hb10)
  clear H_a H_b H_m1 H_m2 H_j1 H_j2 H_ms
  have H_a := N_a; clear N_a
  have H_b := N_b; clear N_b
  have H_m1 := N_m1; clear N_m1
  have H_m2 := N_m2; clear N_m2
  have H_j1 := N_j1; clear N_j1
  have H_j2 := N_j2; clear N_j2
  have H_ms := N_ms; clear N_ms
  have HB10 := Lib.hid (bot HB9.out hb10)
  clear HB9
  have H_ks := Lib.hid hs10
  clear hs10 hb10
  go_upto_region 13 with fail
  go_cut [107] from 91 (fun u wx => u = .bool false ∧ Hid (Below w10.heap.size w10 wx))
  case first =>
    have hz : (n_ks : Int) = 0 := by have := Hn_ks.out; simp at this; omega
    have hz2 : ((n_ks : Int) != 0) = false := by simp [hz]
    have hz3 : ((n_ks : Int) == 0) = true := by simp [hz]
    clear hz L2 L3
    go_wp2_with fail
    refine (CS.out _ _ _ _ _ _ _ _ _ _ H_ms.out H_a.out).mono ?_
    rintro e wz ⟨rfl, hbz⟩
    go_wp2_with fail
    go_meet
    exact ⟨rfl, hbz⟩
  case rest =>
  obtain ⟨hu, hbc'⟩ := hcut
  subst hu
  have hbc := hbc'.out
  clear hbc'
  have N_a := Lib.hid (H_a.out.belowSize hbc)
  have N_b := Lib.hid (H_b.out.belowSize hbc)
  have N_m1 := Lib.hid (H_m1.out.belowSize hbc)
  have N_m2 := Lib.hid (H_m2.out.belowSize hbc)
  have N_j1 := Lib.hid (H_j1.out.belowSize hbc)
  have N_j2 := Lib.hid (H_j2.out.belowSize hbc)
  have N_ms := Lib.hid (H_ms.out.belowSize hbc)
  have N_ks := Lib.hid (H_ks.out.belowSize hbc)
  clear H_a H_b H_m1 H_m2 H_j1 H_j2 H_ms H_ks
  have H_a := N_a; clear N_a
  have H_b := N_b; clear N_b
  have H_m1 := N_m1; clear N_m1
  have H_m2 := N_m2; clear N_m2
  have H_j1 := N_j1; clear N_j1
  have H_j2 := N_j2; clear N_j2
  have H_ms := N_ms; clear N_ms
  have H_ks := N_ks; clear N_ks
  have HB11 := Lib.hid (bot HB10.out hbc)
  clear HB10
  clear hbc
  obtain ⟨w11, hw11⟩ : ∃ w11, w11 = wc := ⟨_, rfl⟩
  subst hw11
  go_wp2_with fail
  refine (spanAll_any _).mono ?_
  rintro e w12 ⟨v12, rfl, hs12, hb12⟩
  obtain ⟨A_all, c_all, rfl, _, _⟩ := hs12.val
  rw [show allS.length = 1 from rfl] at hs12 ⊢
  have N_a := Lib.hid (H_a.out.belowSize hb12)
  have N_b := Lib.hid (H_b.out.belowSize hb12)
  have N_m1 := Lib.hid (H_m1.out.belowSize hb12)
  have N_m2 := Lib.hid (H_m2.out.belowSize hb12)
  have N_j1 := Lib.hid (H_j1.out.belowSize hb12)
  have N_j2 := Lib.hid (H_j2.out.belowSize hb12)
  have N_ms := Lib.hid (H_ms.out.belowSize hb12)
  have N_ks := Lib.hid (H_ks.out.belowSize hb12)
  clear H_a H_b H_m1 H_m2 H_j1 H_j2 H_ms H_ks
  have H_a := N_a; clear N_a
  have H_b := N_b; clear N_b
  have H_m1 := N_m1; clear N_m1
  have H_m2 := N_m2; clear N_m2
  have H_j1 := N_j1; clear N_j1
  have H_j2 := N_j2; clear N_j2
  have H_ms := N_ms; clear N_ms
  have H_ks := N_ks; clear N_ks
  have HB12 := Lib.hid (bot HB11.out hb12)
  clear HB11
  have H_all12 := Lib.hid hs12
  clear hs12 hb12
  go_wp2_with fail
  refine (C_kn.out _ _ _ _ _ _ _ _ _ H_all12.out H_a.out).mono ?_
  rintro e w13 ⟨v13, rfl, ho13, hb13⟩
  have hs13 := ho13.slvB
  obtain ⟨A_kn, c_kn, rfl, _, _⟩ := hs13.val
  obtain ⟨n_kn, hn13⟩ : ∃ n, n = (kn).1.length := ⟨_, rfl⟩
  rw [← hn13] at hs13 ⊢
  have Hn_kn := Lib.hid hn13
  clear ho13 hn13
  have N_a := Lib.hid (H_a.out.belowSize hb13)
  have N_b := Lib.hid (H_b.out.belowSize hb13)
  have N_m1 := Lib.hid (H_m1.out.belowSize hb13)
  have N_m2 := Lib.hid (H_m2.out.belowSize hb13)
  have N_j1 := Lib.hid (H_j1.out.belowSize hb13)
  have N_j2 := Lib.hid (H_j2.out.belowSize hb13)
  have N_ms := Lib.hid (H_ms.out.belowSize hb13)
  have N_ks := Lib.hid (H_ks.out.belowSize hb13)
  have N_allS := Lib.hid (H_all12.out.belowSize hb13)
  clear H_a H_b H_m1 H_m2 H_j1 H_j2 H_ms H_ks H_all12
  have H_a := N_a; clear N_a
  have H_b := N_b; clear N_b
  have H_m1 := N_m1; clear N_m1
  have H_m2 := N_m2; clear N_m2
  have H_j1 := N_j1; clear N_j1
  have H_j2 := N_j2; clear N_j2
  have H_ms := N_ms; clear N_ms
  have H_ks := N_ks; clear N_ks
  have H_allS := N_allS; clear N_allS
  have HB13 := Lib.hid (bot HB12.out hb13)
  clear HB12
  have H_kn := Lib.hid hs13
  clear hs13 hb13
  go_upto_if 115 with fail
  go_cut [] from 114 (fun wx => Hid (Below w13.heap.size w13 wx))
  case first =>
    by_cases e1 : kn.2 = 0
    · have z1 := L2.out (by simp) e1
      subst z1
      have t1 : (kn.2 == 0) = true := by simp [e1]
      clear e1 L2 L3
      have HBc := Lib.hid (Below.refl w13.heap.size w13)
      go_wp2_with fail
      refine (spanAll_any _).mono ?_
      rintro e w14 ⟨v14, rfl, hs14, hb14⟩
      obtain ⟨A_all, c_all, rfl, _, _⟩ := hs14.val
      rw [show allS.length = 1 from rfl] at hs14 ⊢
      have N_a := Lib.hid (H_a.out.belowSize hb14)
      have N_b := Lib.hid (H_b.out.belowSize hb14)
      have N_m1 := Lib.hid (H_m1.out.belowSize hb14)
      have N_m2 := Lib.hid (H_m2.out.belowSize hb14)
      have N_j1 := Lib.hid (H_j1.out.belowSize hb14)
      have N_j2 := Lib.hid (H_j2.out.belowSize hb14)
      have N_ms := Lib.hid (H_ms.out.belowSize hb14)
      have N_ks := Lib.hid (H_ks.out.belowSize hb14)
      have N_allS := Lib.hid (H_allS.out.belowSize hb14)
      have N_kn := Lib.hid (H_kn.out.belowSize hb14)
      clear H_a H_b H_m1 H_m2 H_j1 H_j2 H_ms H_ks H_allS H_kn
      have H_a := N_a; clear N_a
      have H_b := N_b; clear N_b
      have H_m1 := N_m1; clear N_m1
      have H_m2 := N_m2; clear N_m2
      have H_j1 := N_j1; clear N_j1
      have H_j2 := N_j2; clear N_j2
      have H_ms := N_ms; clear N_ms
      have H_ks := N_ks; clear N_ks
      have H_allS := N_allS; clear N_allS
      have H_kn := N_kn; clear N_kn
      have HB14 := Lib.hid (bot HBc.out hb14)
      clear HBc
      have H_all14 := Lib.hid hs14
      clear hs14 hb14
      go_wp2_with fail
      refine (C_kb.out _ _ _ _ _ _ _ _ _ H_all14.out H_kn.out).mono ?_
      rintro e w15 ⟨v15, rfl, ho15, hb15⟩
      have hs15 := ho15.slvB
      obtain ⟨A_kb, c_kb, rfl, _, _⟩ := hs15.val
      obtain ⟨n_kb, hn15⟩ : ∃ n, n = (((a, 0) : List Spn × Int)).1.length := ⟨_, rfl⟩
      rw [← hn15] at hs15 ⊢
      have Hn_kb := Lib.hid hn15
      clear ho15 hn15
      have N_a := Lib.hid (H_a.out.belowSize hb15)
      have N_b := Lib.hid (H_b.out.belowSize hb15)
      have N_m1 := Lib.hid (H_m1.out.belowSize hb15)
      have N_m2 := Lib.hid (H_m2.out.belowSize hb15)
      have N_j1 := Lib.hid (H_j1.out.belowSize hb15)
      have N_j2 := Lib.hid (H_j2.out.belowSize hb15)
      have N_ms := Lib.hid (H_ms.out.belowSize hb15)
      have N_ks := Lib.hid (H_ks.out.belowSize hb15)
      have N_allS := Lib.hid (H_all14.out.belowSize hb15)
      have N_kn := Lib.hid (H_kn.out.belowSize hb15)
      clear H_a H_b H_m1 H_m2 H_j1 H_j2 H_ms H_ks H_all14 H_kn
      have H_a := N_a; clear N_a
      have H_b := N_b; clear N_b
      have H_m1 := N_m1; clear N_m1
      have H_m2 := N_m2; clear N_m2
      have H_j1 := N_j1; clear N_j1
      have H_j2 := N_j2; clear N_j2
      have H_ms := N_ms; clear N_ms
      have H_ks := N_ks; clear N_ks
      have H_allS := N_allS; clear N_allS
      have H_kn := N_kn; clear N_kn
      have HB15 := Lib.hid (bot HB14.out hb15)
      clear HB14
      have H_kb := Lib.hid hs15
      clear hs15 hb15
      go_wp2_with fail
      refine (CS.out _ _ _ _ _ _ _ _ _ _ H_kb.out H_a.out).mono ?_
      rintro e wz ⟨rfl, hbz⟩
      go_wp2_with fail
      go_meet
      exact bot HB15.out hbz
    · have t1 : (kn.2 == 0) = false := by simp [e1]
      clear e1 L2 L3
      go_wp2_with fail
      go_meet
      exact Below.refl _ _
  case rest =>
  have hbc := hcut.out
  clear hcut
  have N_a := Lib.hid (H_a.out.belowSize hbc)
  have N_b := Lib.hid (H_b.out.belowSize hbc)
  have N_m1 := Lib.hid (H_m1.out.belowSize hbc)
  have N_m2 := Lib.hid (H_m2.out.belowSize hbc)
  have N_j1 := Lib.hid (H_j1.out.belowSize hbc)
  have N_j2 := Lib.hid (H_j2.out.belowSize hbc)
  have N_ms := Lib.hid (H_ms.out.belowSize hbc)
  have N_ks := Lib.hid (H_ks.out.belowSize hbc)
  have N_allS := Lib.hid (H_allS.out.belowSize hbc)
  have N_kn := Lib.hid (H_kn.out.belowSize hbc)
  clear H_a H_b H_m1 H_m2 H_j1 H_j2 H_ms H_ks H_allS H_kn
  have H_a := N_a; clear N_a
  have H_b := N_b; clear N_b
  have H_m1 := N_m1; clear N_m1
  have H_m2 := N_m2; clear N_m2
  have H_j1 := N_j1; clear N_j1
  have H_j2 := N_j2; clear N_j2
  have H_ms := N_ms; clear N_ms
  have H_ks := N_ks; clear N_ks
  have H_allS := N_allS; clear N_allS
  have H_kn := N_kn; clear N_kn
  have HB14 := Lib.hid (bot HB13.out hbc)
  clear HB13
  clear hbc
  obtain ⟨w14, hw14⟩ : ∃ w14, w14 = wc := ⟨_, rfl⟩
  subst hw14
  go_wp2_with fail
  refine (C_kd.out _ _ _ _ _ _ _ _ _ H_a.out H_b.out).mono ?_
  rintro e w15 ⟨v15, rfl, ho15, hb15⟩
  have hs15 := ho15.slvB
  obtain ⟨A_kd, c_kd, rfl, _, _⟩ := hs15.val
  obtain ⟨n_kd, hn15⟩ : ∃ n, n = (kd).1.length := ⟨_, rfl⟩
  rw [← hn15] at hs15 ⊢
  have Hn_kd := Lib.hid hn15
  clear ho15 hn15
  have N_a := Lib.hid (H_a.out.belowSize hb15)
  have N_b := Lib.hid (H_b.out.belowSize hb15)
  have N_m1 := Lib.hid (H_m1.out.belowSize hb15)
  have N_m2 := Lib.hid (H_m2.out.belowSize hb15)
  have N_j1 := Lib.hid (H_j1.out.belowSize hb15)
  have N_j2 := Lib.hid (H_j2.out.belowSize hb15)
  have N_ms := Lib.hid (H_ms.out.belowSize hb15)
  have N_ks := Lib.hid (H_ks.out.belowSize hb15)
  have N_allS := Lib.hid (H_allS.out.belowSize hb15)
  have N_kn := Lib.hid (H_kn.out.belowSize hb15)
  clear H_a H_b H_m1 H_m2 H_j1 H_j2 H_ms H_ks H_allS H_kn
  have H_a := N_a; clear N_a
  have H_b := N_b; clear N_b
  have H_m1 := N_m1; clear N_m1
  have H_m2 := N_m2; clear N_m2
  have H_j1 := N_j1; clear N_j1
  have H_j2 := N_j2; clear N_j2
  have H_ms := N_ms; clear N_ms
  have H_ks := N_ks; clear N_ks
  have H_allS := N_allS; clear N_allS
  have H_kn := N_kn; clear N_kn
  have HB15 := Lib.hid (bot HB14.out hb15)
  clear HB14
  have H_kd := Lib.hid hs15
  clear hs15 hb15
  by_cases e1 : m2.2 = 0
  · by_cases e2 : kd.2 = 0
    · have z1 := L3.out (by simp) (by simp) e1 e2
      subst z1
      have t1 : (m2.2 != 0) = false := by simp [e1]
      have t1' : (m2.2 == 0) = true := by simp [e1]
      have t2 : (kd.2 != 0) = false := by simp [e2]
      have t2' : (kd.2 == 0) = true := by simp [e2]
      clear e1 e2 L2 L3
      go_wp2_with fail
      refine (C_ja.out _ _ _ _ _ _ _ _ _ H_m1.out H_kd.out).mono ?_
      rintro e w16 ⟨v16, rfl, ho16, hb16⟩
      have hs16 := ho16.slvB
      obtain ⟨A_ja, c_ja, rfl, _, _⟩ := hs16.val
      obtain ⟨n_ja, hn16⟩ : ∃ n, n = (((a, 0) : List Spn × Int)).1.length := ⟨_, rfl⟩
      rw [← hn16] at hs16 ⊢
      have Hn_ja := Lib.hid hn16
      clear ho16 hn16
      have N_a := Lib.hid (H_a.out.belowSize hb16)
      have N_b := Lib.hid (H_b.out.belowSize hb16)
      have N_m1 := Lib.hid (H_m1.out.belowSize hb16)
      have N_m2 := Lib.hid (H_m2.out.belowSize hb16)
      have N_j1 := Lib.hid (H_j1.out.belowSize hb16)
      have N_j2 := Lib.hid (H_j2.out.belowSize hb16)
      have N_ms := Lib.hid (H_ms.out.belowSize hb16)
      have N_ks := Lib.hid (H_ks.out.belowSize hb16)
      have N_allS := Lib.hid (H_allS.out.belowSize hb16)
      have N_kn := Lib.hid (H_kn.out.belowSize hb16)
      have N_kd := Lib.hid (H_kd.out.belowSize hb16)
      clear H_a H_b H_m1 H_m2 H_j1 H_j2 H_ms H_ks H_allS H_kn H_kd
      have H_a := N_a; clear N_a
      have H_b := N_b; clear N_b
      have H_m1 := N_m1; clear N_m1
      have H_m2 := N_m2; clear N_m2
      have H_j1 := N_j1; clear N_j1
      have H_j2 := N_j2; clear N_j2
      have H_ms := N_ms; clear N_ms
      have H_ks := N_ks; clear N_ks
      have H_allS := N_allS; clear N_allS
      have H_kn := N_kn; clear N_kn
      have H_kd := N_kd; clear N_kd
      have HB16 := Lib.hid (bot HB15.out hb16)
      clear HB15
      have H_ja := Lib.hid hs16
      clear hs16 hb16
      go_wp2_with fail
      refine (CS.out _ _ _ _ _ _ _ _ _ _ H_ja.out H_a.out).mono ?_
      rintro e wz ⟨rfl, hbz⟩
      go_wp2_with fail
      go_ret
      exact ⟨rfl, bot HB16.out hbz⟩
    · have t1 : (m2.2 != 0) = false := by simp [e1]
      have t1' : (m2.2 == 0) = true := by simp [e1]
      have t2 : (kd.2 != 0) = true := by simp [e2]
      have t2' : (kd.2 == 0) = false := by simp [e2]
      clear e1 e2 L2 L3
      go_wp2_with fail
      go_ret
      exact ⟨rfl, HB15.out⟩
  · have t1 : (m2.2 != 0) = true := by simp [e1]
    have t1' : (m2.2 == 0) = false := by simp [e1]
    clear e1 L2 L3
    go_wp2_with fail
    go_ret
    exact ⟨rfl, HB15.out⟩
end Go.Proofs.YtghihopmiagcpaaGreatDoor
