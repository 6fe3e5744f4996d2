/-
  halyardref02.Compare and halyardlaw03.SpanSigns, walked.
-/
import Derived.Test.YtghihopmiagcpaaGreatDoorSignP
import Derived.Test.YtghihopmiagcpaaGreatDoorOver
import Derived.Test.YtghihopmiagcpaaGreatDoorRefV
import Derived.Deep.CutRange
set_option autoImplicit false
set_option relaxedAutoImplicit false
set_option linter.unusedVariables false
set_option linter.unusedSimpArgs false
namespace Go.Proofs.YtghihopmiagcpaaGreatDoor
open Go.Rows Go.RowKit Go.Shelf Go.Sort

set_option maxHeartbeats 2000000 in
set_option maxRecDepth 100000 in
theorem refCompare_any (x1 x2 x3 y1 y2 y3 : Int) (w : World) :
    Calls Tryz.prog 24 #[.agg #[.int .i64 x1, .int .i64 x2, .int .i64 x3], .agg #[.int .i64 y1, .int .i64 y2, .int .i64 y3]] w fun e w' => e = .returned (.int .i64 (cmp3 x1 x2 x3 y1 y2 y3)) ∧ Below w.heap.size w w' := by
  obtain ⟨R, hR⟩ : ∃ R, R = cmp3 x1 x2 x3 y1 y2 y3 := ⟨_, rfl⟩
  rw [← hR]
  have F1 : Hid (x1 < y1 → R = -1) := fun h => by rw [hR]; unfold cmp3; rw [if_pos h]
  have F2 : Hid (¬ x1 < y1 → y1 < x1 → R = 1) := fun h0 h => by rw [hR]; unfold cmp3; rw [if_neg h0, if_pos h]
  have F3 : Hid (x1 = y1 → x2 < y2 → R = -1) := fun h0 h => by rw [hR]; unfold cmp3; rw [if_neg (by omega), if_neg (by omega), if_pos h]
  have F4 : Hid (x1 = y1 → ¬ x2 < y2 → y2 < x2 → R = 1) := fun h0 h1 h => by rw [hR]; unfold cmp3; rw [if_neg (by omega), if_neg (by omega), if_neg h1, if_pos h]
  have F5 : Hid (x1 = y1 → x2 = y2 → x3 < y3 → R = -1) := fun h0 h1 h => by rw [hR]; unfold cmp3; rw [if_neg (by omega), if_neg (by omega), if_neg (by omega), if_neg (by omega), if_pos h]
  have F6 : Hid (x1 = y1 → x2 = y2 → ¬ x3 < y3 → y3 < x3 → R = 1) := fun h0 h1 h2 h => by rw [hR]; unfold cmp3; rw [if_neg (by omega), if_neg (by omega), if_neg (by omega), if_neg (by omega), if_neg h2, if_pos h]
  have F7 : Hid (x1 = y1 → x2 = y2 → x3 = y3 → R = 0) := fun h0 h1 h2 => by rw [hR]; unfold cmp3; rw [if_neg (by omega), if_neg (by omega), if_neg (by omega), if_neg (by omega), if_neg (by omega), if_neg (by omega)]
  clear hR
  go_enter Tryz.func24, Tryz.ntmps24
  go_wp2_with fail
  obtain ⟨w1, hw1⟩ : ∃ w1, w1 = (((w.alloc (.cells #[.int .i64 x1, .int .i64 x2, .int .i64 x3] 24)).alloc (.cells #[.int .i64 y1, .int .i64 y2, .int .i64 y3] 24)).alloc (.cells #[.int .i64 x1, .int .i64 x2, .int .i64 x3] 3)).alloc (.cells #[.int .i64 y1, .int .i64 y2, .int .i64 y3] 3) := ⟨_, rfl⟩
  have HB1 : Hid (Below w.heap.size w w1) := by unfold Hid; rw [hw1]; exact bal (bal (bal (bal (Below.refl _ _) _) _) _) _
  have hx : w1.heap[w.heap.size + 2]? = some (.cells #[.int .i64 x1, .int .i64 x2, .int .i64 x3] 3 (0, 0)) := by
    rw [hw1]
    have := heap_alloc_new ((w.alloc (.cells #[.int .i64 x1, .int .i64 x2, .int .i64 x3] 24)).alloc (.cells #[.int .i64 y1, .int .i64 y2, .int .i64 y3] 24)) (.cells #[.int .i64 x1, .int .i64 x2, .int .i64 x3] 3)
    simp only [World.size_alloc] at this
    rw [Below.heap_alloc _ _ _ (by simp)]
    exact this
  have hy : w1.heap[w.heap.size + 2 + 1]? = some (.cells #[.int .i64 y1, .int .i64 y2, .int .i64 y3] 3 (0, 0)) := by
    rw [hw1]
    have := heap_alloc_new (((w.alloc (.cells #[.int .i64 x1, .int .i64 x2, .int .i64 x3] 24)).alloc (.cells #[.int .i64 y1, .int .i64 y2, .int .i64 y3] 24)).alloc (.cells #[.int .i64 x1, .int .i64 x2, .int .i64 x3] 3)) (.cells #[.int .i64 y1, .int .i64 y2, .int .i64 y3] 3)
    simp only [World.size_alloc] at this
    exact this
  rw [← hw1]
  clear hw1
  have HX := Lib.hid hx
  have HY := Lib.hid hy
  obtain ⟨bx, hbx⟩ : ∃ bx, bx = w.heap.size + 2 := ⟨_, rfl⟩
  rw [← hbx] at HX HY
  rw [← hbx]
  obtain ⟨yb, hby⟩ : ∃ yb, yb = bx + 1 := ⟨_, rfl⟩
  rw [← hby] at HY
  rw [← hby]
  clear hbx hby hx hy
  go_loopw [7] (fun i wr => ∃ k : Nat, k ≤ 3 ∧ i = .int .i64 k ∧ Hid ((1 ≤ k → x1 = y1) ∧ (2 ≤ k → x2 = y2) ∧ (3 ≤ k → x3 = y3)) ∧ Hid (Below w1.heap.size w1 wr)) (fun i _ => 3 - (intOf i).toNat)
  case atStart => exact ⟨0, Nat.zero_le _, rfl, ⟨fun h => absurd h (by decide), fun h => absurd h (by decide), fun h => absurd h (by decide)⟩, Below.refl _ _⟩
  case round =>
    obtain ⟨k, hk, rfl, Hq, HB⟩ := hrel
    have HBw := Lib.hid (bot HB1.out HB.out)
    obtain ⟨⟨c0, c1, c2⟩, _⟩ := row3 ((HB.out.block _ (Array.getElem?_eq_some_iff.1 HX.out).1).trans HX.out)
    obtain ⟨⟨d0, d1, d2⟩, _⟩ := row3 ((HB.out.block _ (Array.getElem?_eq_some_iff.1 HY.out).1).trans HY.out)
    have hkk : k = 0 ∨ k = 1 ∨ k = 2 ∨ k = 3 := by omega
    rcases hkk with rfl | rfl | rfl | rfl
    · by_cases hl : x1 < y1
      · have He : Hid (R = -1) := F1.out hl
        clear F1 F2 F3 F4 F5 F6 F7 Hq
        have r_c0 := cell_regrown c0
        have r_d0 := cell_regrown d0
        go_wp2_with fail
        refine wp_region_qb (by kernel_rfl) (by kernel_rfl) ?_
        repeat (go_big_quiet_step (first | fail))
        refine wpQuiet_nil ?_
        intro w3 B3
        go_wp2_with fail
        go_ret
        exact ⟨by rw [He.out]; rfl, bot HBw.out B3⟩
      · by_cases hg : y1 < x1
        · have He : Hid (R = 1) := F2.out (by omega) hg
          clear F1 F2 F3 F4 F5 F6 F7 Hq
          have r_c0 := cell_regrown c0
          have r_d0 := cell_regrown d0
          go_wp2_with fail
          refine wp_region_qb (by kernel_rfl) (by kernel_rfl) ?_
          repeat (go_big_quiet_step (first | fail))
          refine wpQuiet_nil ?_
          intro w3 B3
          have c0' := below_cell B3 c0 (cell_lt c0)
          have d0' := below_cell B3 d0 (cell_lt d0)
          have r_c0' := cell_regrown c0'
          have r_d0' := cell_regrown d0'
          go_wp2_with fail
          refine wp_region_qb (by kernel_rfl) (by kernel_rfl) ?_
          repeat (go_big_quiet_step (first | fail))
          refine wpQuiet_nil ?_
          intro w4 B4
          go_wp2_with fail
          go_ret
          exact ⟨by rw [He.out]; rfl, bot HBw.out (bot B3 B4)⟩
        · have hee : x1 = y1 := by omega
          have Hq2 : Hid ((1 ≤ 1 → x1 = y1) ∧ (2 ≤ 1 → x2 = y2) ∧ (3 ≤ 1 → x3 = y3)) := ⟨fun _ => hee, fun h => absurd h (by decide), fun h => absurd h (by decide)⟩
          clear Hq hee
          have r_c0 := cell_regrown c0
          have r_d0 := cell_regrown d0
          go_wp2_with fail
          refine wp_region_qb (by kernel_rfl) (by kernel_rfl) ?_
          repeat (go_big_quiet_step (first | fail))
          refine wpQuiet_nil ?_
          intro w3 B3
          have c0' := below_cell B3 c0 (cell_lt c0)
          have d0' := below_cell B3 d0 (cell_lt d0)
          have r_c0' := cell_regrown c0'
          have r_d0' := cell_regrown d0'
          go_wp2_with fail
          refine wp_region_qb (by kernel_rfl) (by kernel_rfl) ?_
          repeat (go_big_quiet_step (first | fail))
          refine wpQuiet_nil ?_
          intro w4 B4
          have HB4 := Lib.hid (bot HB.out (bot B3 B4))
          go_wp2_with fail
          go_roundw
          case rel => exact ⟨1, by decide, rfl, Hq2, HB4⟩
          case measure => simp [intOf]
    · by_cases hl : x2 < y2
      · have He : Hid (R = -1) := F3.out (Hq.out.1 (by decide)) hl
        clear F1 F2 F3 F4 F5 F6 F7 Hq
        have r_c1 := cell_regrown c1
        have r_d1 := cell_regrown d1
        go_wp2_with fail
        refine wp_region_qb (by kernel_rfl) (by kernel_rfl) ?_
        repeat (go_big_quiet_step (first | fail))
        refine wpQuiet_nil ?_
        intro w3 B3
        go_wp2_with fail
        go_ret
        exact ⟨by rw [He.out]; rfl, bot HBw.out B3⟩
      · by_cases hg : y2 < x2
        · have He : Hid (R = 1) := F4.out (Hq.out.1 (by decide)) (by omega) hg
          clear F1 F2 F3 F4 F5 F6 F7 Hq
          have r_c1 := cell_regrown c1
          have r_d1 := cell_regrown d1
          go_wp2_with fail
          refine wp_region_qb (by kernel_rfl) (by kernel_rfl) ?_
          repeat (go_big_quiet_step (first | fail))
          refine wpQuiet_nil ?_
          intro w3 B3
          have c1' := below_cell B3 c1 (cell_lt c1)
          have d1' := below_cell B3 d1 (cell_lt d1)
          have r_c1' := cell_regrown c1'
          have r_d1' := cell_regrown d1'
          go_wp2_with fail
          refine wp_region_qb (by kernel_rfl) (by kernel_rfl) ?_
          repeat (go_big_quiet_step (first | fail))
          refine wpQuiet_nil ?_
          intro w4 B4
          go_wp2_with fail
          go_ret
          exact ⟨by rw [He.out]; rfl, bot HBw.out (bot B3 B4)⟩
        · have hee : x2 = y2 := by omega
          have Hq2 : Hid ((1 ≤ 2 → x1 = y1) ∧ (2 ≤ 2 → x2 = y2) ∧ (3 ≤ 2 → x3 = y3)) := ⟨fun _ => Hq.out.1 (by decide), fun _ => hee, fun h => absurd h (by decide)⟩
          clear Hq hee
          have r_c1 := cell_regrown c1
          have r_d1 := cell_regrown d1
          go_wp2_with fail
          refine wp_region_qb (by kernel_rfl) (by kernel_rfl) ?_
          repeat (go_big_quiet_step (first | fail))
          refine wpQuiet_nil ?_
          intro w3 B3
          have c1' := below_cell B3 c1 (cell_lt c1)
          have d1' := below_cell B3 d1 (cell_lt d1)
          have r_c1' := cell_regrown c1'
          have r_d1' := cell_regrown d1'
          go_wp2_with fail
          refine wp_region_qb (by kernel_rfl) (by kernel_rfl) ?_
          repeat (go_big_quiet_step (first | fail))
          refine wpQuiet_nil ?_
          intro w4 B4
          have HB4 := Lib.hid (bot HB.out (bot B3 B4))
          go_wp2_with fail
          go_roundw
          case rel => exact ⟨2, by decide, rfl, Hq2, HB4⟩
          case measure => simp [intOf]
    · by_cases hl : x3 < y3
      · have He : Hid (R = -1) := F5.out (Hq.out.1 (by decide)) (Hq.out.2.1 (by decide)) hl
        clear F1 F2 F3 F4 F5 F6 F7 Hq
        have r_c2 := cell_regrown c2
        have r_d2 := cell_regrown d2
        go_wp2_with fail
        refine wp_region_qb (by kernel_rfl) (by kernel_rfl) ?_
        repeat (go_big_quiet_step (first | fail))
        refine wpQuiet_nil ?_
        intro w3 B3
        go_wp2_with fail
        go_ret
        exact ⟨by rw [He.out]; rfl, bot HBw.out B3⟩
      · by_cases hg : y3 < x3
        · have He : Hid (R = 1) := F6.out (Hq.out.1 (by decide)) (Hq.out.2.1 (by decide)) (by omega) hg
          clear F1 F2 F3 F4 F5 F6 F7 Hq
          have r_c2 := cell_regrown c2
          have r_d2 := cell_regrown d2
          go_wp2_with fail
          refine wp_region_qb (by kernel_rfl) (by kernel_rfl) ?_
          repeat (go_big_quiet_step (first | fail))
          refine wpQuiet_nil ?_
          intro w3 B3
          have c2' := below_cell B3 c2 (cell_lt c2)
          have d2' := below_cell B3 d2 (cell_lt d2)
          have r_c2' := cell_regrown c2'
          have r_d2' := cell_regrown d2'
          go_wp2_with fail
          refine wp_region_qb (by kernel_rfl) (by kernel_rfl) ?_
          repeat (go_big_quiet_step (first | fail))
          refine wpQuiet_nil ?_
          intro w4 B4
          go_wp2_with fail
          go_ret
          exact ⟨by rw [He.out]; rfl, bot HBw.out (bot B3 B4)⟩
        · have hee : x3 = y3 := by omega
          have Hq2 : Hid ((1 ≤ 3 → x1 = y1) ∧ (2 ≤ 3 → x2 = y2) ∧ (3 ≤ 3 → x3 = y3)) := ⟨fun _ => Hq.out.1 (by decide), fun _ => Hq.out.2.1 (by decide), fun _ => hee⟩
          clear Hq hee
          have r_c2 := cell_regrown c2
          have r_d2 := cell_regrown d2
          go_wp2_with fail
          refine wp_region_qb (by kernel_rfl) (by kernel_rfl) ?_
          repeat (go_big_quiet_step (first | fail))
          refine wpQuiet_nil ?_
          intro w3 B3
          have c2' := below_cell B3 c2 (cell_lt c2)
          have d2' := below_cell B3 d2 (cell_lt d2)
          have r_c2' := cell_regrown c2'
          have r_d2' := cell_regrown d2'
          go_wp2_with fail
          refine wp_region_qb (by kernel_rfl) (by kernel_rfl) ?_
          repeat (go_big_quiet_step (first | fail))
          refine wpQuiet_nil ?_
          intro w4 B4
          have HB4 := Lib.hid (bot HB.out (bot B3 B4))
          go_wp2_with fail
          go_roundw
          case rel => exact ⟨3, by decide, rfl, Hq2, HB4⟩
          case measure => simp [intOf]
    · have He : Hid (R = 0) := F7.out (Hq.out.1 (by decide)) (Hq.out.2.1 (by decide)) (Hq.out.2.2 (by decide))
      clear F1 F2 F3 F4 F5 F6 F7 Hq
      go_wp2_with fail
      go_ret
      exact ⟨by rw [He.out]; rfl, HBw.out⟩

theorem gsB_le (k : Nat) (h : k < gsB.length) : gsB[k].size ≤ 2 := by
  have hm := List.getElem_mem h
  generalize gsB[k] = x at *
  unfold gsB at hm
  simp only [List.mem_cons, List.not_mem_nil, or_false] at hm
  rcases hm with rfl | rfl | rfl | rfl | rfl | rfl | rfl | rfl <;> decide
theorem elemsBool : ∀ {l : List Bool} {w : World} {S : Nat → Prop}, Elems rBool w S l (l.map Value.bool) := by
  intro l
  induction l with
  | nil => intro w S; rfl
  | cons x l ih => intro w S; exact ⟨[.bool x], l.map Value.bool, rfl, rfl, ih⟩

set_option maxHeartbeats 4000000 in
set_option maxRecDepth 100000 in
theorem spanSigns_law (v u : Ver) (w : World) (hv : Vok w) (hvi : I64 v.major ∧ I64 v.minor ∧ I64 v.patch) (hui : I64 u.major ∧ I64 u.minor ∧ I64 u.patch) :
    Calls Tryz.prog 6 #[verV v, verV u] w fun e w' => e = .returned (.bool true) ∧ Below w.heap.size w w' := by
  obtain ⟨v1, v2, v3⟩ := v
  obtain ⟨u1, u2, u3⟩ := u
  obtain ⟨C, hC⟩ : ∃ C, C = cmp3 u1 u2 u3 v1 v2 v3 := ⟨_, rfl⟩
  obtain ⟨T, hT⟩ : ∃ T, T = verText v1 v2 v3 := ⟨_, rfl⟩
  obtain ⟨M, hM⟩ : ∃ M, M = (u1 == v1) := ⟨_, rfl⟩
  obtain ⟨N, hN⟩ : ∃ N, N = (u2 == v2) := ⟨_, rfl⟩
  obtain ⟨CA, hCA⟩ : ∃ CA, CA = caretB C M (M && N) ⟨v1, v2, v3⟩ := ⟨_, rfl⟩
  obtain ⟨WL, hWL⟩ : ∃ WL, WL = wantsB C (M && N) CA := ⟨_, rfl⟩
  have hWLl : WL.length = 8 := by rw [hWL]; rfl
  have HF : Hid (verB v1 v2 v3 = true → verB u1 u2 u3 = true → ∀ (k : Nat) (h : k < gsB.length) (h' : k < WL.length), (parseQ (gsB[k] ++ T)).2 = 0 ∧ inSB (parseQ (gsB[k] ++ T)).1 ⟨u1, u2, u3⟩ = WL[k]) := fun q1 q2 k h h' => by
    have := signs_plain (v := ⟨v1, v2, v3⟩) (u := ⟨u1, u2, u3⟩) q1 q2 k h (by simp only [← hC, ← hM, ← hN, ← hCA, ← hWL]; exact h')
    simp only [← hC, ← hM, ← hN, ← hCA, ← hWL] at this
    rw [show (⟨v1, v2, v3⟩ : Ver).txt = T from hT.symm] at this
    exact this
  have hcc : C = -1 ∨ C = 0 ∨ C = 1 := by
    rw [hC]; unfold cmp3
    repeat' split
    all_goals simp
  have Hcc := Lib.hid hcc
  have hTz : T.size ≤ 11 := by rw [hT]; exact verText_le _ _ _
  have HA : Hid (∀ (k : Nat) (h : k < gsB.length) (W : World), (Op.stringOp .add gsB[k] T).run Tryz.prog W = .ok (.string (gsB[k] ++ T)) W) := fun k h W => run_string_add_sum W _ _ (by have := gsB_le k h; omega)
  have HZ : Hid (∀ (k : Nat) (h : k < gsB.length), (gsB[k] ++ T).size ≤ 20) := fun k h => by rw [ByteArray.size_append]; have := gsB_le k h; omega
  have HMv : Hid (∀ W, Calls Tryz.prog 22 #[.agg #[.int .i64 v1, .int .i64 v2, .int .i64 v3]] W fun e w' => e = .returned (.bool (verB v1 v2 v3)) ∧ Below W.heap.size W w') := fun W => refVerMay_any v1 v2 v3 W
  have HMu : Hid (∀ W, Calls Tryz.prog 22 #[.agg #[.int .i64 u1, .int .i64 u2, .int .i64 u3]] W fun e w' => e = .returned (.bool (verB u1 u2 u3)) ∧ Below W.heap.size W w') := fun W => refVerMay_any u1 u2 u3 W
  have HP : Hid (∀ W, Calls Tryz.prog 23 #[.agg #[.int .i64 v1, .int .i64 v2, .int .i64 v3]] W fun e w' => e = .returned (.string T) ∧ Below W.heap.size W w') := fun W => by rw [hT]; exact refVerPrint_any v1 v2 v3 W
  have HCm : Hid (∀ W, Calls Tryz.prog 24 #[.agg #[.int .i64 u1, .int .i64 u2, .int .i64 u3], .agg #[.int .i64 v1, .int .i64 v2, .int .i64 v3]] W fun e w' => e = .returned (.int .i64 C) ∧ Below W.heap.size W w') := fun W => by rw [hC]; exact refCompare_any u1 u2 u3 v1 v2 v3 W
  have HCA1 : Hid (0 < v1 → CA = (decide (0 ≤ C) && M)) := fun h => by rw [hCA]; unfold caretB; simp only [if_pos h]
  have HCA2 : Hid (¬ 0 < v1 → 0 < v2 → CA = (decide (0 ≤ C) && (M && N))) := fun h1 h => by rw [hCA]; unfold caretB; simp only [if_neg h1, if_pos h]
  have HCA3 : Hid (¬ 0 < v1 → ¬ 0 < v2 → CA = (C == 0)) := fun h1 h2 => by rw [hCA]; unfold caretB; simp only [if_neg h1, if_neg h2]
  have HWL : Hid (WL = [C == 0, C == 0, decide (C < 0), decide (C ≤ 0), decide (0 < C), decide (0 ≤ C), decide (0 ≤ C) && (M && N), CA]) := hWL
  have hMe : (u1 == v1) = M := hM.symm
  have hNe : (u2 == v2) = N := hN.symm
  have Hv := Lib.hid hv
  have HWl := Lib.hid hWLl
  unfold verV
  simp only
  clear hv hvi hui hC hT hM hN hCA hWL hWLl hcc
  generalize verB v1 v2 v3 = pv at *
  generalize verB u1 u2 u3 = pu at *
  go_enter Tryz.func6, Tryz.ntmps6
  go_wp2_with fail
  obtain ⟨wi, hwi⟩ : ∃ wi, wi = (w.alloc (.cells #[.int .i64 v1, .int .i64 v2, .int .i64 v3] 24)).alloc (.cells #[.int .i64 u1, .int .i64 u2, .int .i64 u3] 24) := ⟨_, rfl⟩
  have HB0 : Hid (Below w.heap.size w wi) := by unfold Hid; rw [hwi]; exact bal (bal (Below.refl _ _) _) _
  have HRv : Hid (wi.heap[w.heap.size]? = some (.cells #[.int .i64 v1, .int .i64 v2, .int .i64 v3] 24 (0, 0))) := by unfold Hid; rw [hwi, Below.heap_alloc _ _ _ (by simp)]; exact heap_alloc_new w _
  have HRu : Hid (wi.heap[w.heap.size + 1]? = some (.cells #[.int .i64 u1, .int .i64 u2, .int .i64 u3] 24 (0, 0))) := by
    unfold Hid; rw [hwi]
    have := heap_alloc_new (w.alloc (.cells #[.int .i64 v1, .int .i64 v2, .int .i64 v3] 24)) (.cells #[.int .i64 u1, .int .i64 u2, .int .i64 u3] 24)
    simp only [World.size_alloc] at this
    exact this
  rw [← hwi]
  clear hwi
  obtain ⟨bu, hbu⟩ : ∃ bu, bu = w.heap.size + 1 := ⟨_, rfl⟩
  rw [← hbu] at HRu
  rw [← hbu]
  clear hbu
  obtain ⟨bv, hbv⟩ : ∃ bv, bv = w.heap.size := ⟨_, rfl⟩
  rw [← hbv] at HRv
  have HF' := HF
  refine (known_any _ (Hv.out.below HB0.out)).mono ?_
  rintro e w1 ⟨rfl, hb1⟩
  rw [← hbv]
  have Hbv := Lib.hid hbv
  clear hbv HF'
  have HB1 := Lib.hid (bot HB0.out hb1)
  have HRv' := Lib.hid ((hb1.block _ (Array.getElem?_eq_some_iff.1 HRv.out).1).trans HRv.out)
  have HRu' := Lib.hid ((hb1.block _ (Array.getElem?_eq_some_iff.1 HRu.out).1).trans HRu.out)
  clear HRv HRu HB0 hb1
  have HRv := HRv'; clear HRv'
  have HRu := HRu'; clear HRu'
  obtain ⟨⟨y1, y2, y3⟩, _⟩ := row3 HRv.out
  go_wp2_with fail
  refine (HMv.out _).mono ?_
  rintro e w2 ⟨rfl, hb2⟩
  have HB2 := Lib.hid (bot HB1.out hb2)
  have HRv' := Lib.hid ((hb2.block _ (Array.getElem?_eq_some_iff.1 HRv.out).1).trans HRv.out)
  have HRu' := Lib.hid ((hb2.block _ (Array.getElem?_eq_some_iff.1 HRu.out).1).trans HRu.out)
  clear HRv HRu HB1 hb2
  have HRv := HRv'; clear HRv'
  have HRu := HRu'; clear HRu'
  clear y1 y2 y3
  cases pv with
  | false =>
    go_wp2_with fail
    go_ret
    exact ⟨rfl, HB2.out⟩
  | true =>
  obtain ⟨⟨y1, y2, y3⟩, _⟩ := row3 HRu.out
  go_wp2_with fail
  refine (HMu.out _).mono ?_
  rintro e w3 ⟨rfl, hb3⟩
  have HB3 := Lib.hid (bot HB2.out hb3)
  have HRv' := Lib.hid ((hb3.block _ (Array.getElem?_eq_some_iff.1 HRv.out).1).trans HRv.out)
  have HRu' := Lib.hid ((hb3.block _ (Array.getElem?_eq_some_iff.1 HRu.out).1).trans HRu.out)
  clear HRv HRu HB2 hb3
  have HRv := HRv'; clear HRv'
  have HRu := HRu'; clear HRu'
  clear y1 y2 y3
  cases pu with
  | false =>
    go_wp2_with fail
    go_ret
    exact ⟨rfl, HB3.out⟩
  | true =>
  have HFF := Lib.hid (HF.out (by simp) (by simp))
  clear HF
  obtain ⟨⟨y1, y2, y3⟩, _⟩ := row3 HRv.out
  go_wp2_with fail
  refine (HP.out _).mono ?_
  rintro e w4 ⟨rfl, hb4⟩
  have HB4 := Lib.hid (bot HB3.out hb4)
  have HRv' := Lib.hid ((hb4.block _ (Array.getElem?_eq_some_iff.1 HRv.out).1).trans HRv.out)
  have HRu' := Lib.hid ((hb4.block _ (Array.getElem?_eq_some_iff.1 HRu.out).1).trans HRu.out)
  clear HRv HRu HB3 hb4
  have HRv := HRv'; clear HRv'
  have HRu := HRu'; clear HRu'
  clear y1 y2 y3
  obtain ⟨⟨y1, y2, y3⟩, _⟩ := row3 HRv.out
  obtain ⟨⟨z1, z2, z3⟩, _⟩ := row3 HRu.out
  go_wp2_with fail
  refine (HCm.out _).mono ?_
  rintro e w5 ⟨rfl, hb5⟩
  have HB5 := Lib.hid (bot HB4.out hb5)
  have HRv' := Lib.hid ((hb5.block _ (Array.getElem?_eq_some_iff.1 HRv.out).1).trans HRv.out)
  have HRu' := Lib.hid ((hb5.block _ (Array.getElem?_eq_some_iff.1 HRu.out).1).trans HRu.out)
  clear HRv HRu HB4 hb5
  have HRv := HRv'; clear HRv'
  have HRu := HRu'; clear HRu'
  clear y1 y2 y3 z1 z2 z3
  obtain ⟨⟨y1, y2, y3⟩, _⟩ := row3 HRv.out
  obtain ⟨⟨z1, z2, z3⟩, _⟩ := row3 HRu.out
  go_upto_region 8 with fail
  go_cut [8] from 35 (fun a wx => a = .bool (M && N) ∧ Hid (w5 = wx))
  case first =>
    clear HFF HCA1 HCA2 HCA3 HWL
    cases M with
    | true =>
      go_wp2_with fail
      go_meet
      exact ⟨by simp, rfl⟩
    | false =>
      go_wp2_with fail
      go_meet
      exact ⟨by simp, rfl⟩
  case rest =>
  obtain ⟨hu8, hw5⟩ := hcut
  have hw5' := hw5.out
  subst hw5'
  subst hu8
  obtain ⟨MI, hMI⟩ : ∃ MI, MI = (M && N) := ⟨_, rfl⟩
  rw [← hMI] at HCA2 HWL
  rw [← hMI]
  clear hMI hw5
  go_upto_if 47 with fail
  go_cut [9] from 45 (fun a wx => a = .bool CA ∧ Hid (w5 = wx))
  case first =>
    clear HFF HWL
    rcases Hcc.out with hc | hc | hc <;> subst hc
    all_goals
      by_cases h1 : 0 < v1
      · have He := Lib.hid (HCA1.out (by omega))
        clear HCA1 HCA2 HCA3
        cases M <;>
          (go_wp2_with fail
           go_meet
           exact ⟨by rw [He.out]; rfl, rfl⟩)
      · by_cases h2 : 0 < v2
        · have He := Lib.hid (HCA2.out (by omega) (by omega))
          clear HCA1 HCA2 HCA3
          cases MI <;>
            (go_wp2_with fail
             go_meet
             exact ⟨by rw [He.out]; rfl, rfl⟩)
        · have He := Lib.hid (HCA3.out (by omega) (by omega))
          clear HCA1 HCA2 HCA3
          go_wp2_with fail
          go_meet
          exact ⟨by rw [He.out]; rfl, rfl⟩
  case rest =>
  obtain ⟨hu9, hw5⟩ := hcut
  have hw5' := hw5.out
  subst hw5'
  subst hu9
  clear hw5 HCA1 HCA2 HCA3 hMe hNe
  go_upto_region 15 with fail
  obtain ⟨w6, hw6⟩ : ∃ w6, w6 = w5.alloc (.cells #[.string ⟨#[]⟩, .string ⟨#[61]⟩, .string ⟨#[60]⟩, .string ⟨#[60, 61]⟩, .string ⟨#[62]⟩, .string ⟨#[62, 61]⟩, .string ⟨#[126]⟩, .string ⟨#[94]⟩] 9) := ⟨_, rfl⟩
  have hb6 : Below w5.heap.size w5 w6 := by rw [hw6]; exact (Below.refl _ _).alloc (Nat.le_refl _) _
  have HG : Hid (SlV rStr w6 (fun b => b < w6.heap.size) gsB (.slice (some ⟨w5.heap.size, 0, none⟩) 8 8)) := by
    refine SlV.of_block (g := w5.heap.size) (cs := #[.string ⟨#[]⟩, .string ⟨#[61]⟩, .string ⟨#[60]⟩, .string ⟨#[60, 61]⟩, .string ⟨#[62]⟩, .string ⟨#[62, 61]⟩, .string ⟨#[126]⟩, .string ⟨#[94]⟩]) (by rw [hw6]; exact heap_alloc_new w5 _) ?_ (by rw [hw6]; simp) rfl (Nat.le_refl 8) (by unfold maxLen; decide)
    exact elemsS (l := gsB) (fun x hx => by
      unfold gsB at hx
      simp only [List.mem_cons, List.not_mem_nil, or_false] at hx
      rcases hx with rfl | rfl | rfl | rfl | rfl | rfl | rfl | rfl <;> (unfold maxLen; decide))
  rw [← hw6]
  obtain ⟨gb, hgb⟩ : ∃ gb, gb = w5.heap.size := ⟨_, rfl⟩
  rw [← hgb] at HG
  rw [← hgb]
  clear hgb hw6 y1 y2 y3 z1 z2 z3
  have HB6 := Lib.hid (bot HB5.out hb6)
  have HRv' := Lib.hid ((hb6.block _ (Array.getElem?_eq_some_iff.1 HRv.out).1).trans HRv.out)
  have HRu' := Lib.hid ((hb6.block _ (Array.getElem?_eq_some_iff.1 HRu.out).1).trans HRu.out)
  clear HRv HRu HB5 hb6
  have HRv := HRv'; clear HRv'
  have HRu := HRu'; clear HRu'
  go_cut [11] from 62 (fun a wx => (∃ b : Nat, a = .slice (some ⟨b, 0, none⟩) 8 8) ∧ Hid (SlV rBool wx (fun b => b < wx.heap.size) WL a) ∧ Hid (Below w6.heap.size w6 wx))
  case first =>
    clear HFF
    rcases Hcc.out with hc | hc | hc <;> subst hc
    all_goals
      cases MI <;>
        (go_wp2_with fail
         go_meet
         refine ⟨⟨_, rfl⟩, ?_, (Below.refl _ _).alloc (Nat.le_refl _) _⟩
         rw [HWL.out]
         exact SlV.of_block (g := w6.heap.size) (heap_alloc_new w6 _) (elemsBool (l := [_, _, _, _, _, _, _, _])) (by simp) rfl (Nat.le_refl 8) (by unfold maxLen; decide))
  case rest =>
  obtain ⟨⟨wb, hu11⟩, HWs, HB6'⟩ := hcut
  subst hu11
  obtain ⟨w7, hw7⟩ : ∃ w7, w7 = wc := ⟨_, rfl⟩
  subst hw7
  have hb7 := HB6'.out
  have Hz67 : Hid (w6.heap.size ≤ w7.heap.size) := hb7.size
  have HG7 := Lib.hid (HG.out.belowSize hb7)
  clear HG HB6' HWL
  have HB7 := Lib.hid (bot HB6.out hb7)
  have HRv' := Lib.hid ((hb7.block _ (Array.getElem?_eq_some_iff.1 HRv.out).1).trans HRv.out)
  have HRu' := Lib.hid ((hb7.block _ (Array.getElem?_eq_some_iff.1 HRu.out).1).trans HRu.out)
  clear HRv HRu HB6 hb7
  have HRv := HRv'; clear HRv'
  have HRu := HRu'; clear HRu'
  go_wp2_with fail
  go_loopw [12] (fun i wr => ∃ k : Nat, k ≤ 8 ∧ i = .int .i64 k ∧ Hid (Below w7.heap.size w7 wr)) (fun i _ => 8 - (intOf i).toNat)
  case atStart => exact ⟨0, Nat.zero_le _, rfl, Below.refl _ _⟩
  case round =>
    obtain ⟨k, hk, rfl, HB⟩ := hrel
    have HBw := Lib.hid (bot HB7.out HB.out)
    by_cases hlt : k < 8
    case neg =>
      have hkI : ¬ (k : Int) < 8 := by omega
      go_wp2_with fail
      go_ret
      exact ⟨rfl, HBw.out⟩
    have hkI : (k : Int) < 8 := by omega
    have hk0 : (0 : Int) ≤ (k : Int) := by omega
    have hkg : k < gsB.length := hlt
    have hkw : k < WL.length := by rw [HWl.out]; exact hlt
    have hlg := HG7.out.below HB.out (fun b hb => Nat.lt_of_lt_of_le hb Hz67.out)
    have hlw := HWs.out.below HB.out (fun b hb => hb)
    obtain ⟨pb, po, cs, he, hpS, _, ⟨rfl, _⟩, hcell⟩ := hlg.elem (List.getElem?_eq_getElem hkg)
    simp only [Option.some.injEq, Addr.mk.injEq] at he
    obtain ⟨rfl, rfl, _⟩ := he
    have c0 := hcell 0 _ rfl
    simp only [rStr, Nat.add_zero, Nat.mul_one, Nat.zero_add] at c0
    clear hcell
    obtain ⟨pb2, po2, cs2, he2, hpS2, _, hh2, hcell2⟩ := hlw.elem (List.getElem?_eq_getElem hkw)
    obtain rfl : cs2 = [.bool WL[k]] := hh2
    simp only [Option.some.injEq, Addr.mk.injEq] at he2
    obtain ⟨rfl, rfl, _⟩ := he2
    have d0 := hcell2 0 _ rfl
    simp only [rBool, Nat.add_zero, Nat.mul_one, Nat.zero_add] at d0
    clear hcell2
    obtain ⟨hq1, hq2⟩ := HFF.out k hkg hkw
    have hA := fun W => HA.out k hkg W
    have Hp := Lib.hid (spanParse_any (gsB[k] ++ T) wr (Hv.out.below HBw.out) (by have := HZ.out k hkg; omega))
    have Hq1 := Lib.hid hq1
    have Hq2 := Lib.hid hq2
    have hru := (HB.out.block _ (Array.getElem?_eq_some_iff.1 HRu.out).1).trans HRu.out
    have Hru := Lib.hid hru
    clear hlg hlw hq1 hq2 hpS hpS2 hru
    generalize gsB[k] ++ T = sx at *
    generalize gsB[k] = g0 at *
    generalize WL[k] = bw at *
    generalize parseQ sx = Q at *
    obtain ⟨ql, qe⟩ := Q
    simp only at Hp Hq1 Hq2
    have hqe := Hq1.out
    subst hqe
    go_wp2_with fail
    refine Hp.out.mono ?_
    rintro e w8 ⟨v8, rfl, hv8, hb8⟩
    obtain ⟨X8, c8, rfl, _, _⟩ := hv8.val
    have Hin : Hid (∀ W, Below w8.heap.size w8 W → Calls Tryz.prog 14 #[.slice X8 ql.length c8, .agg #[.int .i64 u1, .int .i64 u2, .int .i64 u3]] W fun e w' => e = .returned (.bool bw) ∧ Below W.heap.size W w') := fun W hW => by
      have := spanIn_any X8 ql.length c8 ql ⟨u1, u2, u3⟩ W _ (hv8.belowSize hW)
      rw [Hq2.out] at this
      exact this
    generalize ql.length = n8 at *
    have d8 := below_cell hb8 d0 (cell_lt d0)
    have hr8 := (hb8.block _ (Array.getElem?_eq_some_iff.1 Hru.out).1).trans Hru.out
    obtain ⟨⟨z1, z2, z3⟩, _⟩ := row3 hr8
    have HB8 := Lib.hid (HB.out.trans (hb8.mono HB.out.size))
    have Q1 := Lib.hid (qcall (w := w8) (fun W hW => Hin.out W hW))
    clear hv8 hb8 hr8 c0 d0 hA Hp
    have hbb : (bw != bw) = false := by simp
    have r_d8 := cell_regrown d8
    have r_z1 := cell_regrown z1
    have r_z2 := cell_regrown z2
    have r_z3 := cell_regrown z3
    go_wp2_with fail
    refine wp_region_qb (by kernel_rfl) (by kernel_rfl) ?_
    repeat (go_big_quiet_step (first | (with_reducible exact Q1.out _ _)))
    refine wpQuiet_nil ?_
    intro w9 B9
    have HB9 := Lib.hid (HB8.out.trans (B9.mono HB8.out.size))
    clear Q1 Hin
    go_wp2_with fail
    go_roundw
    case rel => exact ⟨k + 1, by omega, by go_num, HB9⟩
    case measure => simp [intOf]; omega
end Go.Proofs.YtghihopmiagcpaaGreatDoor
