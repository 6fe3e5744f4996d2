/-
  The law ChartApart, walked.
-/
import Derived.Test.YtkpbnbnfgadkcaaGreatDoorDrawC
set_option autoImplicit false
set_option relaxedAutoImplicit false
set_option linter.unusedVariables false
set_option linter.unusedSimpArgs false
namespace Go.Proofs.YtkpbnbnfgadkcaaGreatDoor
open Go.Rows Go.RowKit Go.Shelf Go.Sort

theorem namesB_any (A B : Option Addr) (n m c d : Nat) (xs ys : List ByteArray) (w : World) (S T : Nat → Prop)
    (hx : SlV rStr w S xs (.slice A n c)) (hy : SlV rStr w T ys (.slice B m d)) :
    Calls Tryz.prog 13 #[.slice A n c, .slice B m d] w fun e w' => e = .returned (.bool (decide (xs = ys))) ∧ Below w.heap.size w w' := by
  refine (names_any A B n m c d xs ys w S T hx hy).mono ?_
  rintro e w' ⟨h, k, rfl⟩
  exact ⟨h, ⟨rfl, rfl, rfl, Nat.le_refl _, fun _ _ => rfl⟩⟩

set_option maxHeartbeats 3200000 in
set_option maxRecDepth 100000 in
theorem chartApart_no (A : Option Addr) (n c : Nat) (xs : List Dir) (w : World) (ht : Tab w) (hx : SlV rDir w (fun b => b < w.heap.size) xs (.slice A n c)) (hlen : ∀ d ∈ xs, d.path.length * 32 ≤ 140737488355328) (hnb : xs.length ≤ 1048576) (h : checkE xs ≠ 0) :
    Calls Tryz.prog 4 #[.agg #[.slice A n c]] w fun e w' => e = .returned (.bool true) ∧ Below w.heap.size w w' := by
  have hr : drawnR xs 0 = none := by unfold drawnR; rw [if_neg h]
  have Hd : Hid (∀ W, Below w.heap.size w W → Calls Tryz.prog 7 #[.agg #[.slice A n c], .int .i64 0] W fun e w' => ∃ v, e = .returned (.tuple #[v, .int .i64 42]) ∧ SlV rSpot w' (fun _ => True) [] v ∧ Below W.heap.size W w') := fun W hW => by
    have := draw_any A n c xs 0 W (tab_below ht hW) ((hx.belowSize hW).more fun b _ h => h) hlen hnb (by unfold I64; omega)
    rw [hr] at this
    exact this
  have Hck : Hid (∀ W, Below w.heap.size w W → Calls Tryz.prog 11 #[.agg #[.slice A n c]] W fun e w' => e = .returned (.int .i64 (checkE xs)) ∧ Below W.heap.size W w') := fun W hW => refCheck_any A n c xs W _ hlen (hx.belowSize hW)
  have hne : (checkE xs != 0) = true := by simpa using h
  clear hr hx hlen hnb ht h
  generalize checkE xs = E at *
  go_enter Tryz.func4, Tryz.ntmps4
  go_wp2_with fail
  obtain ⟨w0, hw0⟩ : ∃ w0, w0 = w.alloc (.cells #[.slice A n c] 24) := ⟨_, rfl⟩
  have hz : w.heap.size < w0.heap.size := by rw [hw0]; simp [go_sem]
  have HB0 : Hid (Below w.heap.size w w0) := by unfold Hid; rw [hw0]; exact bal (Below.refl _ _) _
  have a0 : w0.cell? ⟨w.heap.size, 0, none⟩ = some (.slice A n c) := by rw [hw0]; simp [go_sem]
  rw [← hw0]
  clear hw0
  refine (Hd.out w0 HB0.out).mono ?_
  rintro e w1 ⟨v1, rfl, hv1, B1⟩
  obtain ⟨A1, c1, hve, _, _⟩ := hv1.val
  simp only [List.length_nil] at hve
  have a1 := below_cell B1 a0 hz
  have HB1 := Lib.hid (bot HB0.out B1)
  subst hve
  clear hv1 B1 a0 HB0
  go_wp2_with fail
  refine (known_any _).mono ?_
  rintro e w3 ⟨rfl, B3⟩
  have HB3 : Hid (Below w.heap.size w w3) := bot HB1.out B3
  have a3 := below_cell B3 a1 (cell_lt a1)
  clear B3 a1 HB1
  go_wp2_with fail
  refine (Hck.out w3 HB3.out).mono ?_
  rintro e w4 ⟨rfl, B4⟩
  have HB4 := Lib.hid (bot HB3.out B4)
  clear B4
  go_wp2_with fail
  go_ret
  exact ⟨rfl, HB4.out⟩

set_option maxHeartbeats 6400000 in
set_option maxRecDepth 100000 in
theorem chartApart_yes (A : Option Addr) (n c : Nat) (xs : List Dir) (w : World) (ht : Tab w) (hx : SlV rDir w (fun b => b < w.heap.size) xs (.slice A n c)) (hlen : ∀ d ∈ xs, d.path.length * 32 ≤ 140737488355328) (hnb : xs.length ≤ 1048576) (h : checkE xs = 0) :
    Calls Tryz.prog 4 #[.agg #[.slice A n c]] w fun e w' => e = .returned (.bool true) ∧ Below w.heap.size w w' := by
  have hnx := hx.n_eq
  have hn63 : n ≤ 1048576 := by omega
  have hr : drawnR xs 0 = some (drawS xs) := by
    unfold drawnR; rw [if_pos h, show turnF 0 = id from funext turnF_zero, List.map_id]
  have Hd : Hid (∀ W, Below w.heap.size w W → Calls Tryz.prog 7 #[.agg #[.slice A n c], .int .i64 0] W fun e w' => ∃ v, e = .returned (.tuple #[v, .int .i64 0]) ∧ SlV rSpot w' (fun _ => True) (drawS xs) v ∧ Below W.heap.size W w') := fun W hW => by
    have := draw_any A n c xs 0 W (tab_below ht hW) ((hx.belowSize hW).more fun b _ h => h) hlen hnb (by unfold I64; omega)
    rw [hr] at this
    exact this
  have Hck : Hid (∀ W, Below w.heap.size w W → Calls Tryz.prog 11 #[.agg #[.slice A n c]] W fun e w' => e = .returned (.int .i64 0) ∧ Below W.heap.size W w') := fun W hW => by
    have := refCheck_any A n c xs W _ hlen (hx.belowSize hW)
    rw [h] at this
    exact this
  have Hf : Hid (∀ pp vA vm vc S W, Below w.heap.size w W → SlV rStr W S pp (.slice vA vm vc) → Calls Tryz.prog 12 #[.agg #[.slice A n c], .slice vA vm vc] W fun e w' => e = .returned (.int .i64 (findI xs pp)) ∧ Below W.heap.size W w') := fun pp vA vm vc S W hW hv => refFind_any _ _ _ _ _ _ xs pp W _ _ (hx.belowSize hW) hv
  have HS : Hid (∀ i (hi : i < (drawS xs).length), (drawS xs)[i].x = ((drawS xs)[i].path.length : Int) ∧ 0 ≤ (drawS xs)[i].y ∧ (drawS xs)[i].y < (n : Int) ∧ 0 ≤ findI xs (drawS xs)[i].path ∧ (drawS xs)[i].path.length ≤ 256) := fun i hi => by
    obtain ⟨h1, h2, h3, h4, h5⟩ := drawS_small h (List.getElem_mem hi)
    exact ⟨h5, h3, by omega, drawS_find h (List.getElem_mem hi), by omega⟩
  have HAp : Hid (∀ i k (hi : i < (drawS xs).length) (hk : k < (drawS xs).length), k < i → ((drawS xs)[k].x = (drawS xs)[i].x → (drawS xs)[k].y ≠ (drawS xs)[i].y) ∧ (drawS xs)[k].path ≠ (drawS xs)[i].path ∧ (drawS xs)[k].y ≤ (drawS xs)[i].y) := fun i k hi hk hki => drawS_apart h hi hki
  have Hdl : Hid ((drawS xs).length = n) := by unfold Hid; rw [drawS_length h, hnx]
  clear hr hx hlen hnb ht h hnx
  generalize drawS xs = D at *
  have hnn : ((n : Int) != (n : Int)) = false := by simp
  go_enter Tryz.func4, Tryz.ntmps4
  go_wp2_with fail
  obtain ⟨w0, hw0⟩ : ∃ w0, w0 = w.alloc (.cells #[.slice A n c] 24) := ⟨_, rfl⟩
  have hz : w.heap.size < w0.heap.size := by rw [hw0]; simp [go_sem]
  have HB0 : Hid (Below w.heap.size w w0) := by unfold Hid; rw [hw0]; exact bal (Below.refl _ _) _
  have a0 : w0.cell? ⟨w.heap.size, 0, none⟩ = some (.slice A n c) := by rw [hw0]; simp [go_sem]
  rw [← hw0]
  clear hw0
  refine (Hd.out w0 HB0.out).mono ?_
  rintro e w1 ⟨v1, rfl, hv1, B1⟩
  obtain ⟨A1, c1, hve, _, _⟩ := hv1.val
  rw [Hdl.out] at hve
  have a1 := below_cell B1 a0 hz
  have HB1 := Lib.hid (bot HB0.out B1)
  have HL1 := Lib.hid hv1
  rw [hve] at HL1
  subst hve
  clear hv1 B1 a0 HB0 Hd
  go_wp2_with fail
  refine (known_any _).mono ?_
  rintro e w3 ⟨rfl, B3⟩
  have HB3 : Hid (Below w.heap.size w w3) := bot HB1.out B3
  have a3 := below_cell B3 a1 (cell_lt a1)
  have HL3 := Lib.hid (HL1.out.belowSize B3)
  clear B3 a1 HB1 HL1
  go_wp2_with fail
  refine (Hck.out w3 HB3.out).mono ?_
  rintro e w4 ⟨rfl, B4⟩
  have HB4 := Lib.hid (bot HB3.out B4)
  have a4 := below_cell B4 a3 (cell_lt a3)
  have HL4 := Lib.hid (HL3.out.belowSize B4)
  clear B4 a3 HB3 HL3 Hck
  go_wp2_with fail
  have HA4 := Lib.hid a4
  clear a4
  go_loopw [5] (fun i wr => ∃ k : Nat, k ≤ n ∧ i = .int .i64 k ∧ Hid (Below w4.heap.size w4 wr)) (fun i _ => n - (intOf i).toNat)
  case atStart => exact ⟨0, Nat.zero_le _, rfl, Below.refl _ _⟩
  case round =>
    obtain ⟨i, hi, rfl, HBl⟩ := hrel
    have b0 := below_cell HBl.out HA4.out (cell_lt HA4.out)
    have hbw := bot HB4.out HBl.out
    by_cases hlt : i < n
    case neg =>
      have hlt' : ¬ (i : Int) < (n : Int) := by omega
      go_wp2_with fail
      go_ret
      exact ⟨rfl, hbw⟩
    have hix : i < D.length := by have := Hdl.out; omega
    have hiI : (i : Int) < (n : Int) := by omega
    have hi0 : (0 : Int) ≤ (i : Int) := by omega
    obtain ⟨hx1, hy0, hyn, hfi, hpl9⟩ := HS.out i hix
    have HLr := HL4.out.belowSize HBl.out
    obtain ⟨b, o, cs, rfl, _, hbl, hh, hcell⟩ := HLr.elem (List.getElem?_eq_getElem hix)
    obtain ⟨p, rfl, hpp, _, _⟩ := hh
    obtain ⟨pA, pc, rfl, _, hpm⟩ := hpp.val
    have c0 := hcell 0 _ rfl
    have c1 := hcell 1 _ rfl
    have c2 := hcell 2 _ rfl
    simp only [rSpot, Nat.add_zero, Nat.mul_one] at c0 c1 c2
    rw [hx1] at c1
    have Hhap : Hid (∀ k (hk : k < D.length), k < i → (D[k].x = (D[i].path.length : Int) → D[k].y ≠ D[i].y) ∧ D[k].path ≠ D[i].path ∧ D[k].y ≤ D[i].y) := fun k hk hki => by
      have := HAp.out i k hix hk hki
      rw [hx1] at this
      exact this
    have G1 := Lib.hid (qcall (w := wr) (fun W hW => Hf.out D[i].path _ _ _ _ W (bot hbw hW) (hpp.belowSize hW)))
    have HPi := Lib.hid hpp
    generalize findI xs D[i].path = F at *
    clear hcell hpp hx1 HLr
    generalize D[i].y = yi at *
    generalize D[i].path = pi at *
    generalize hpl : pi.length = li at *
    have HPl := Lib.hid hpl; clear hpl
    have d1 : ((li : Int) != (li : Int)) = false := by simp
    have d2 : decide (yi < 0) = false := decide_eq_false (by omega)
    have d3 : decide ((n : Int) ≤ yi) = false := decide_eq_false (by omega)
    have d4 : decide (F < 0) = false := decide_eq_false (by omega)
    have r_b0 := cell_regrown b0
    have r_c0 := cell_regrown c0
    have r_c1 := cell_regrown c1
    have r_c2 := cell_regrown c2
    go_wp2_with fail
    refine wp_region_qb (by kernel_rfl) (by kernel_rfl) ?_
    repeat (go_big_quiet_step (first | (with_reducible exact G1.out _ _)))
    refine wpQuiet_nil ?_
    intro w5 B5
    have e0 := below_cell B5 c0 hbl
    have e1 := below_cell B5 c1 hbl
    have e2 := below_cell B5 c2 hbl
    have HP5 := Lib.hid (HPi.out.belowSize B5)
    have HB5 := Lib.hid (bot HBl.out B5)
    have HE : Hid (w5.cell? ⟨b, o + i * 3, none⟩ = some (.slice pA li pc) ∧ w5.cell? ⟨b, o + i * 3 + 1, none⟩ = some (.int .i64 (li : Int)) ∧ w5.cell? ⟨b, o + i * 3 + 2, none⟩ = some (.int .i64 yi)) := ⟨e0, e1, e2⟩
    clear b0 c0 c1 c2 r_b0 r_c0 r_c1 r_c2 B5 G1 d1 d2 d3 d4 HPi hbw hfi e0 e1 e2
    go_wp2_with fail
    go_loopw [6] (fun j wi => ∃ k : Nat, k ≤ i ∧ j = .int .i64 k ∧ Hid (Below w5.heap.size w5 wi)) (fun j _ => i - (intOf j).toNat)
    case atStart => exact ⟨0, Nat.zero_le _, rfl, Below.refl _ _⟩
    case round =>
      obtain ⟨k, hk, rfl, HBi⟩ := hrel
      by_cases hki : k < i
      case neg =>
        have hlt' : ¬ (k : Int) < (i : Int) := by omega
        have HB6 := Lib.hid (bot HB5.out HBi.out)
        go_wp2_with fail
        go_roundw
        case rel => exact ⟨i + 1, by omega, by go_num, HB6⟩
        case measure => simp [intOf]; omega
      have hkx : k < D.length := by have := Hdl.out; omega
      have hkn : (k : Int) < (n : Int) := by omega
      have hkI : (k : Int) < (i : Int) := by omega
      have hk0 : (0 : Int) ≤ (k : Int) := by omega
      have e0 := below_cell HBi.out HE.out.1 (cell_lt HE.out.1)
      have e1 := below_cell HBi.out HE.out.2.1 (cell_lt HE.out.2.1)
      have e2 := below_cell HBi.out HE.out.2.2 (cell_lt HE.out.2.2)
      have hbw := bot HB5.out HBi.out
      obtain ⟨hxk, _, _, _, hkl9⟩ := HS.out k hkx
      obtain ⟨hne1, hne2, hle⟩ := Hhap.out k hkx hki
      have HLr := HL4.out.belowSize hbw
      obtain ⟨b', o', cs', hAe, _, hbl', hh', hcell'⟩ := HLr.elem (List.getElem?_eq_getElem hkx)
      simp only [Option.some.injEq, Addr.mk.injEq] at hAe
      obtain ⟨rfl, rfl, _⟩ := hAe
      obtain ⟨p', rfl, hpp', _, _⟩ := hh'
      obtain ⟨qA, qc, rfl, _, hqm⟩ := hpp'.val
      have c0 := hcell' 0 _ rfl
      have c1 := hcell' 1 _ rfl
      have c2 := hcell' 2 _ rfl
      simp only [rSpot, Nat.add_zero, Nat.mul_one] at c0 c1 c2
      rw [hxk] at c1 hne1
      have hdf : decide (D[k].path = pi) = false := decide_eq_false hne2
      have HPk := Lib.hid hpp'
      have G1 := Lib.hid (qcall (w := wr) (fun W hW => namesB_any _ _ _ _ _ _ D[k].path pi W _ _ (hpp'.belowSize hW) (HP5.out.belowSize (bot HBi.out hW))))
      rw [hdf] at G1
      clear hcell' hpp' hxk hne2 hdf HLr
      generalize D[k].y = yk at *
      generalize D[k].path = pk at *
      generalize hpl : pk.length = lk at *
      have HPlk := Lib.hid hpl; clear hpl
      have hyd : decide (yi < yk) = false := decide_eq_false (by omega)
      have hw1 : IntKind.i64.wrap ((li : Int) - 1) = (li : Int) - 1 := IntWalk.i64_in _ ⟨by omega, by omega⟩
      refine dite ((lk : Int) = (li : Int) ∧ True) (fun heq => ?_) (fun heq => ?_)
      focus
        have hyk := hne1 heq.1
        have hx2 : ((lk : Int) == (li : Int)) = true := by simp; omega
        have hy2 : (yk == yi) = false := by simp; exact hyk
        have hln : ((lk : Int) == (li : Int) - 1) = false := by simp; omega
        clear hyk hne1 heq
        have r_e0 := cell_regrown e0
        have r_e1 := cell_regrown e1
        have r_e2 := cell_regrown e2
        have r_c0 := cell_regrown c0
        have r_c1 := cell_regrown c1
        have r_c2 := cell_regrown c2
        go_wp2_with fail
        refine wp_region_qb (by kernel_rfl) (by kernel_rfl) ?_
        repeat (go_big_quiet_step (first | (with_reducible exact G1.out _ _)))
        refine wpQuiet_nil ?_
        intro w6 B6
        have HB6 := Lib.hid (bot HBi.out B6)
        have g0 := below_cell B6 e0 (cell_lt e0)
        have h0 := below_cell B6 c0 (cell_lt c0)
        clear e0 e1 e2 c0 c1 c2 r_e0 r_e1 r_e2 r_c0 r_c1 r_c2 B6 G1
        go_wp2_with fail
        have r_g0 := cell_regrown g0
        have r_h0 := cell_regrown h0
        go_wp2_with fail
        refine wp_region_qb (by kernel_rfl) (by kernel_rfl) ?_
        repeat (go_big_quiet_step (first | fail))
        refine wpQuiet_nil ?_
        intro w7 B7
        have HB7 := Lib.hid (bot HB6.out B7)
        clear g0 h0 r_g0 r_h0 B7
        go_wp2_with fail
        go_roundw
        case rel => exact ⟨k + 1, by omega, by go_num, HB7⟩
        case measure => simp [intOf]; omega
      have hx2 : ((lk : Int) == (li : Int)) = false := by simp; intro h; exact heq ⟨by omega, trivial⟩
      clear hne1 heq
      have r_e0 := cell_regrown e0
      have r_e1 := cell_regrown e1
      have r_e2 := cell_regrown e2
      have r_c0 := cell_regrown c0
      have r_c1 := cell_regrown c1
      have r_c2 := cell_regrown c2
      go_wp2_with fail
      refine wp_region_qb (by kernel_rfl) (by kernel_rfl) ?_
      repeat (go_big_quiet_step (first | (with_reducible exact G1.out _ _)))
      refine wpQuiet_nil ?_
      intro w6 B6
      have HB6 := Lib.hid (bot HBi.out B6)
      have g0 := below_cell B6 e0 (cell_lt e0)
      have g2 := below_cell B6 e2 (cell_lt e2)
      have h0 := below_cell B6 c0 (cell_lt c0)
      have h2 := below_cell B6 c2 (cell_lt c2)
      have HPk6 := Lib.hid (HPk.out.belowSize B6)
      have HPi6 := Lib.hid (HP5.out.belowSize HB6.out)
      clear e0 e1 e2 c0 c1 c2 r_e0 r_e1 r_e2 r_c0 r_c1 r_c2 B6 G1 hx2
      go_wp2_with fail
      refine dite ((lk : Int) = (li : Int) - 1) (fun heq => ?_) (fun heq => ?_)
      focus
        obtain ⟨q, rfl⟩ : ∃ q, li = q + 1 := ⟨lk, by omega⟩
        obtain rfl : q = lk := by omega
        have G2 := Lib.hid (qcall (w := w6) (fun W hW => namesB_any _ _ _ _ _ _ pk (pi.take q) W _ _ (HPk6.out.belowSize hW) (SlV.take (HPi6.out.belowSize hW) (by rw [HPl.out]; omega))))
        generalize decide (pk = pi.take q) = B at *
        have hw2 : IntKind.i64.wrap (((q + 1 : Nat) : Int) - 1) = (q : Int) := by rw [hw1]; omega
        have hqq : ((q : Int) == (q : Int)) = true := by simp
        clear hw1 heq
        have r_g0 := cell_regrown g0
        have r_g2 := cell_regrown g2
        have r_h0 := cell_regrown h0
        have r_h2 := cell_regrown h2
        cases B
        · go_wp2_with fail
          refine wp_region_qb (by kernel_rfl) (by kernel_rfl) ?_
          repeat (go_big_quiet_step (first | (with_reducible exact G2.out _ _)))
          refine wpQuiet_nil ?_
          intro w7 B7
          have HB7 := Lib.hid (bot HB6.out B7)
          clear g0 g2 h0 h2 r_g0 r_g2 r_h0 r_h2 B7
          go_wp2_with fail
          go_roundw
          case rel => exact ⟨k + 1, by omega, by go_num, HB7⟩
          case measure => simp [intOf]; omega
        · go_wp2_with fail
          refine wp_region_qb (by kernel_rfl) (by kernel_rfl) ?_
          repeat (go_big_quiet_step (first | (with_reducible exact G2.out _ _)))
          refine wpQuiet_nil ?_
          intro w7 B7
          have HB7 := Lib.hid (bot HB6.out B7)
          clear g0 g2 h0 h2 r_g0 r_g2 r_h0 r_h2 B7
          go_wp2_with fail
          go_roundw
          case rel => exact ⟨k + 1, by omega, by go_num, HB7⟩
          case measure => simp [intOf]; omega
      have hln : ((lk : Int) == (li : Int) - 1) = false := by simp; exact heq
      clear heq
      have r_g0 := cell_regrown g0
      have r_h0 := cell_regrown h0
      go_wp2_with fail
      refine wp_region_qb (by kernel_rfl) (by kernel_rfl) ?_
      repeat (go_big_quiet_step (first | fail))
      refine wpQuiet_nil ?_
      intro w7 B7
      have HB7 := Lib.hid (bot HB6.out B7)
      clear g0 g2 h0 h2 r_g0 r_h0 B7
      go_wp2_with fail
      go_roundw
      case rel => exact ⟨k + 1, by omega, by go_num, HB7⟩
      case measure => simp [intOf]; omega

theorem chartApart_any (A : Option Addr) (n c : Nat) (xs : List Dir) (w : World) (ht : Tab w) (hx : SlV rDir w (fun b => b < w.heap.size) xs (.slice A n c)) (hlen : ∀ d ∈ xs, d.path.length * 32 ≤ 140737488355328) (hnb : xs.length ≤ 1048576) :
    Calls Tryz.prog 4 #[.agg #[.slice A n c]] w fun e w' => e = .returned (.bool true) ∧ Below w.heap.size w w' := by
  by_cases h : checkE xs = 0
  · exact chartApart_yes A n c xs w ht hx hlen hnb h
  · exact chartApart_no A n c xs w ht hx hlen hnb h
end Go.Proofs.YtkpbnbnfgadkcaaGreatDoor
