/-
  May of a list of spans: the program's and the document's, walked.
-/
import Derived.Test.YtanipbpphbkmcaaGreatDoorVers
set_option autoImplicit false
set_option relaxedAutoImplicit false
set_option linter.unusedVariables false
set_option linter.unusedSimpArgs false
namespace Go.Proofs.YtanipbpphbkmcaaGreatDoor
open Go.Rows Go.RowKit Go.Shelf Go.Sort

theorem spanGo_at {le : Int} {l : List Spn} {k : Nat} (h : k < l.length) : spanGo le (l.drop k) =
    ((verB l[k].lo.major l[k].lo.minor l[k].lo.patch && verB l[k].hi.major l[k].hi.minor l[k].hi.patch && decide (le ≤ rankR l[k].lo.major l[k].lo.minor l[k].lo.patch) &&
      decide (rankR l[k].lo.major l[k].lo.minor l[k].lo.patch ≤ rankR l[k].hi.major l[k].hi.minor l[k].hi.patch)) && spanGo (rankR l[k].hi.major l[k].hi.minor l[k].hi.patch + 2) (l.drop (k + 1))) := by
  rw [List.drop_eq_getElem_cons h]; rfl
theorem spansB_big {l : List Spn} (h : ¬ l.length ≤ 64) : spansB l = false := by simp [spansB, h]
theorem spansB_small {l : List Spn} (h : l.length ≤ 64) : spansB l = spanGo 0 l := by simp [spansB, h]

set_option maxHeartbeats 1000000 in
theorem spanMay_any (A : Option Addr) (n c : Nat) (l : List Spn) (w : World) (S : Nat → Prop) (hl : SlV rSpn w S l (.slice A n c)) :
    Calls Tryz.prog 118 #[.slice A n c] w fun e w' => e = .returned (.bool (spansB l)) ∧ Below w.heap.size w w' := by
  have hnx := hl.n_eq
  by_cases h64 : n ≤ 64
  · have Hs : Hid (spansB l = spanGo 0 l) := spansB_small (by omega)
    have hl' := hl.more (S' := fun b => b < w.heap.size) fun b _ hlt => hlt
    have Hnx := Lib.hid hnx; clear hnx
    clear hl
    generalize spansB l = r at *
    go_enter Tryz.func118, Tryz.ntmps118
    go_wp2_with fail
    go_loopw [3, 15] (fun t i wr => ∃ (k : Nat) (le : Int), k ≤ n ∧ i = .int .i64 k ∧ t = .int .i64 le ∧ (0 ≤ le ∧ le ≤ 1000000001) ∧ Hid (spanGo 0 l = spanGo le (l.drop k)) ∧ Below w.heap.size w wr) (fun _ i _ => n - (intOf i).toNat)
    case atStart => exact ⟨0, 0, Nat.zero_le _, rfl, rfl, by omega, by simp [Hid], Below.refl _ _⟩
    case round =>
      obtain ⟨k, le, hk, rfl, rfl, ⟨hle0, hle1⟩, hgo, hbel⟩ := hrel
      by_cases hlt : k < n
      · have hkx : k < l.length := by have := Hnx.out; omega
        have hlw := hl'.below hbel (fun b hb => hb)
        obtain ⟨b, o, cs, rfl, hSb, hbl, hsp, hcell⟩ := hlw.elem (List.getElem?_eq_getElem hkx)
        obtain ⟨rfl, _, _, _, _, _, _⟩ := hsp
        have c0 := hcell 0 _ rfl
        have c1 := hcell 1 _ rfl
        have c2 := hcell 2 _ rfl
        have c3 := hcell 3 _ rfl
        have c4 := hcell 4 _ rfl
        have c5 := hcell 5 _ rfl
        simp only [rSpn, Nat.add_zero, Nat.mul_one] at c0 c1 c2 c3 c4 c5
        clear hcell
        have Hgo := Lib.hid (spanGo_at (le := le) hkx)
        clear hlw
        have hkn : (k : Int) < (n : Int) := by omega
        generalize l[k] = s at *
        obtain ⟨⟨x1, x2, x3⟩, ⟨x4, x5, x6⟩⟩ := s
        simp only at c0 c1 c2 c3 c4 c5
        have H1 := Lib.hid (fun W => versRank_any x1 x2 x3 W)
        have H2 := Lib.hid (fun W => versRank_any x4 x5 x6 W)
        obtain ⟨p1, p2⟩ := rankR_bounds x1 x2 x3
        obtain ⟨q1, q2⟩ := rankR_bounds x4 x5 x6
        generalize hr1 : rankR x1 x2 x3 = r1 at *
        generalize hr2 : rankR x4 x5 x6 = r2 at *
        generalize hv1 : verB x1 x2 x3 = v1 at *
        generalize hv2 : verB x4 x5 x6 = v2 at *
        have Hgo' : Hid (spanGo le (l.drop k) = ((v1 && v2 && decide (le ≤ r1) && decide (r1 ≤ r2)) && spanGo (r2 + 2) (l.drop (k + 1)))) := by
          have := Hgo.out; try simp only [hr1, hr2, hv1, hv2] at this
          exact this
        clear Hgo hr1 hr2 hv1 hv2
        go_wp2_with fail
        refine (H1.out _).mono ?_
        rintro e w1 ⟨rfl, hb1⟩
        have e3 := hb1.cell (p := ⟨wr.heap.size, 3, none⟩) (by simp)
        have e4 := hb1.cell (p := ⟨wr.heap.size, 4, none⟩) (by simp)
        have e5 := hb1.cell (p := ⟨wr.heap.size, 5, none⟩) (by simp)
        simp [go_sem] at e3 e4 e5
        have B1 := bot hbel (bnew hb1)
        clear hb1 hbel
        go_wp2_with fail
        refine (H2.out _).mono ?_
        rintro e w2 ⟨rfl, hb2⟩
        have B2 := bot B1 hb2
        clear hb2 B1 e3 e4 e5 c0 c1 c2 c3 c4 c5
        have Hend : Hid ((v1 && v2 && decide (le ≤ r1) && decide (r1 ≤ r2)) = false → r = false) := fun h => by rw [Hs.out, hgo.out, Hgo'.out, h]; rfl
        have Hon : Hid ((v1 && v2 && decide (le ≤ r1) && decide (r1 ≤ r2)) = true → spanGo 0 l = spanGo (r2 + 2) (l.drop (k + 1))) := fun h => by rw [hgo.out, Hgo'.out, h, Bool.true_and]
        clear hgo Hgo'
        cases v1
        · go_wp2_with fail
          go_ret
          exact ⟨ret_bool (Hend.out rfl).symm, B2⟩
        · cases v2
          · go_wp2_with fail
            go_ret
            exact ⟨ret_bool (Hend.out rfl).symm, B2⟩
          · by_cases g1 : r1 < le
            · have He := Lib.hid (Hend.out (by simp; omega))
              go_wp2_with fail
              go_ret
              exact ⟨ret_bool He.out.symm, B2⟩
            · by_cases g2 : r2 < r1
              · have He := Lib.hid (Hend.out (by simp; omega))
                go_wp2_with fail
                go_ret
                exact ⟨ret_bool He.out.symm, B2⟩
              · have He := Lib.hid (Hon.out (by simp; omega))
                go_wp2_with fail
                go_roundw
                case rel => exact ⟨k + 1, r2 + 2, by omega, by go_num, rfl, by omega, He, B2⟩
                case measure => simp [intOf]; omega
      · have He : Hid (r = true) := by
          unfold Hid
          rw [Hs.out, hgo.out, List.drop_eq_nil_of_le (by have := Hnx.out; omega)]; rfl
        go_wp2_with fail
        go_ret
        exact ⟨ret_bool He.out.symm, hbel⟩
  · have Hs : Hid (spansB l = false) := spansB_big (by omega)
    clear hnx hl
    generalize spansB l = r at *
    have h64' : (64 : Int) < (n : Int) := by omega
    go_enter Tryz.func118, Tryz.ntmps118
    go_wp2_with fail
    go_ret
    exact ⟨ret_bool Hs.out.symm, Below.refl _ _⟩

/-- the rank behind which the next span may begin -/
def prevLe (l : List Spn) : Nat → Int
  | 0 => 0
  | q + 1 => (match l[q]? with | some s => rankR s.hi.major s.hi.minor s.hi.patch | none => 0) + 2
theorem prevLe_succ {l : List Spn} {q : Nat} (h : q < l.length) : prevLe l (q + 1) = rankR l[q].hi.major l[q].hi.minor l[q].hi.patch + 2 := by
  simp [prevLe, List.getElem?_eq_getElem h]

set_option maxHeartbeats 2000000 in
set_option maxRecDepth 100000 in
theorem refSpanMay_any (A : Option Addr) (n c : Nat) (l : List Spn) (w : World) (S : Nat → Prop) (hl : SlV rSpn w S l (.slice A n c)) :
    Calls Tryz.prog 122 #[.slice A n c] w fun e w' => e = .returned (.bool (spansB l)) ∧ Below w.heap.size w w' := by
  have hnx := hl.n_eq
  by_cases h64 : n ≤ 64
  · have Hs : Hid (spansB l = spanGo 0 l) := spansB_small (by omega)
    have hl' := hl.more (S' := fun b => b < w.heap.size) fun b _ hlt => hlt
    have Hnx := Lib.hid hnx; clear hnx
    clear hl
    generalize spansB l = r at *
    go_enter Tryz.func122, Tryz.ntmps122
    go_wp2_with fail
    go_loopw [3] (fun i wr => ∃ (k : Nat), k ≤ n ∧ i = .int .i64 k ∧ Hid (spanGo 0 l = spanGo (prevLe l k) (l.drop k)) ∧ Below w.heap.size w wr) (fun i _ => n - (intOf i).toNat)
    case atStart => exact ⟨0, Nat.zero_le _, rfl, by simp [Hid, prevLe], Below.refl _ _⟩
    case round =>
      obtain ⟨k, hk, rfl, hgo, hbel⟩ := hrel
      by_cases hlt : k < n
      · have hkx : k < l.length := by have := Hnx.out; omega
        have hlw := hl'.below hbel (fun b hb => hb)
        have hlw2 := Lib.hid hlw
        have hbw := hbel.size
        obtain ⟨b, o, cs, rfl, hSb, hbl, hsp, hcell⟩ := hlw.elem (List.getElem?_eq_getElem hkx)
        obtain ⟨rfl, _, _, _, _, _, _⟩ := hsp
        have c0 := hcell 0 _ rfl
        have c1 := hcell 1 _ rfl
        have c2 := hcell 2 _ rfl
        have c3 := hcell 3 _ rfl
        have c4 := hcell 4 _ rfl
        have c5 := hcell 5 _ rfl
        simp only [rSpn, Nat.add_zero, Nat.mul_one] at c0 c1 c2 c3 c4 c5
        clear hcell
        have Hgo := Lib.hid (spanGo_at (le := prevLe l k) hkx)
        have Hpv := Lib.hid (prevLe_succ hkx)
        clear hlw
        have hk0 : (0 : Int) ≤ (k : Int) := by omega
        have hkn : (k : Int) < (n : Int) := by omega
        generalize l[k] = s at *
        obtain ⟨⟨x1, x2, x3⟩, ⟨x4, x5, x6⟩⟩ := s
        simp only at c0 c1 c2 c3 c4 c5
        have H1 := Lib.hid (qcall (w := wr) (fun W _ => refVerMay_any x1 x2 x3 W))
        have H2 := Lib.hid (qcall (w := wr) (fun W _ => refVerMay_any x4 x5 x6 W))
        have H3 := Lib.hid (qcall (w := wr) (fun W _ => refRank_any x1 x2 x3 W))
        have H4 := Lib.hid (qcall (w := wr) (fun W _ => refRank_any x4 x5 x6 W))
        have H5 := Lib.hid (fun W => refRank_any x1 x2 x3 W)
        obtain ⟨p1, p2⟩ := rankR_bounds x1 x2 x3
        obtain ⟨q1, q2⟩ := rankR_bounds x4 x5 x6
        generalize hr1 : rankR x1 x2 x3 = r1 at *
        generalize hr2 : rankR x4 x5 x6 = r2 at *
        generalize hv1 : verB x1 x2 x3 = v1 at *
        generalize hv2 : verB x4 x5 x6 = v2 at *
        have Hgo' : Hid (spanGo (prevLe l k) (l.drop k) = ((v1 && v2 && decide (prevLe l k ≤ r1) && decide (r1 ≤ r2)) && spanGo (prevLe l (k + 1)) (l.drop (k + 1)))) := by
          have := Hgo.out; try simp only [hr1, hr2, hv1, hv2] at this
          rw [Hpv.out]; try simp only [hr2]
          exact this
        clear Hgo hr1 hr2 hv1 hv2 Hpv
        have Hend : Hid ((v1 && v2 && decide (prevLe l k ≤ r1) && decide (r1 ≤ r2)) = false → r = false) := fun h => by rw [Hs.out, hgo.out, Hgo'.out, h]; rfl
        have Hon : Hid ((v1 && v2 && decide (prevLe l k ≤ r1) && decide (r1 ≤ r2)) = true → spanGo 0 l = spanGo (prevLe l (k + 1)) (l.drop (k + 1))) := fun h => by rw [hgo.out, Hgo'.out, h, Bool.true_and]
        clear hgo Hgo'
        have r_c0 := cell_regrown c0
        have r_c1 := cell_regrown c1
        have r_c2 := cell_regrown c2
        have r_c3 := cell_regrown c3
        have r_c4 := cell_regrown c4
        have r_c5 := cell_regrown c5
        cases v1
        · have He := Lib.hid (Hend.out rfl)
          clear Hend Hon
          go_wp2_with fail
          refine wp_region_qb (by kernel_rfl) (by kernel_rfl) ?_
          repeat (go_big_quiet_step (first | (with_reducible exact H1.out _ _) | (with_reducible exact H2.out _ _) | (with_reducible exact H3.out _ _) | (with_reducible exact H4.out _ _)))
          refine wpQuiet_nil ?_
          intro w1 B1
          go_wp2_with fail
          go_ret
          exact ⟨ret_bool He.out.symm, bot hbel B1⟩
        · cases v2
          · have He := Lib.hid (Hend.out rfl)
            clear Hend Hon
            go_wp2_with fail
            refine wp_region_qb (by kernel_rfl) (by kernel_rfl) ?_
            repeat (go_big_quiet_step (first | (with_reducible exact H1.out _ _) | (with_reducible exact H2.out _ _) | (with_reducible exact H3.out _ _) | (with_reducible exact H4.out _ _)))
            refine wpQuiet_nil ?_
            intro w1 B1
            go_wp2_with fail
            go_ret
            exact ⟨ret_bool He.out.symm, bot hbel B1⟩
          · by_cases g2 : r2 < r1
            · have He := Lib.hid (Hend.out (by simp; omega))
              clear Hend Hon
              go_wp2_with fail
              refine wp_region_qb (by kernel_rfl) (by kernel_rfl) ?_
              repeat (go_big_quiet_step (first | (with_reducible exact H1.out _ _) | (with_reducible exact H2.out _ _) | (with_reducible exact H3.out _ _) | (with_reducible exact H4.out _ _)))
              refine wpQuiet_nil ?_
              intro w1 B1
              go_wp2_with fail
              go_ret
              exact ⟨ret_bool He.out.symm, bot hbel B1⟩
            · go_wp2_with fail
              refine wp_region_qb (by kernel_rfl) (by kernel_rfl) ?_
              repeat (go_big_quiet_step (first | (with_reducible exact H1.out _ _) | (with_reducible exact H2.out _ _) | (with_reducible exact H3.out _ _) | (with_reducible exact H4.out _ _)))
              refine wpQuiet_nil ?_
              intro w1 B1
              have B2 := bot hbel B1
              clear H1 H2 H3 H4 r_c0 r_c1 r_c2 r_c3 r_c4 r_c5
              have d0 := below_cell B1 c0 (by omega)
              have d1 := below_cell B1 c1 (by omega)
              have d2 := below_cell B1 c2 (by omega)
              clear c0 c1 c2 c3 c4 c5 hbel
              cases k with
              | zero =>
                have He := Lib.hid (Hon.out (by rw [show prevLe l 0 = 0 from rfl, decide_eq_true p1, decide_eq_true (show r1 ≤ r2 by omega)]; rfl))
                clear Hend Hon B1
                have hz : ¬ (0 : Int) < ((0 : Nat) : Int) := by omega
                have r_d0 := cell_regrown d0
                have r_d1 := cell_regrown d1
                have r_d2 := cell_regrown d2
                go_wp2_with fail
                refine wp_region_qb (by kernel_rfl) (by kernel_rfl) ?_
                repeat (go_big_quiet_step (first | (with_reducible exact H5.out _ _)))
                refine wpQuiet_nil ?_
                intro w2 B3
                go_wp2_with fail
                go_roundw
                case rel => exact ⟨0 + 1, by omega, by go_num, He, bot B2 B3⟩
                case measure => simp [intOf]; omega
              | succ q =>
                have hqx : q < l.length := by omega
                obtain ⟨b', o', cs', hA', _, hbl', ⟨rfl, _, _, _, _, _, _⟩, hcell'⟩ := (hlw2.out.below B1 (fun b hb => Nat.lt_of_lt_of_le hb hbw)).elem (List.getElem?_eq_getElem hqx)
                injection hA' with hA'
                injection hA' with hb' ho' _
                subst hb' ho'
                have e3 := hcell' 3 _ rfl
                have e4 := hcell' 4 _ rfl
                have e5 := hcell' 5 _ rfl
                simp only [rSpn] at e3 e4 e5
                have Hpq := Lib.hid (prevLe_succ hqx)
                clear hcell' hlw2
                generalize l[q] = sq at *
                obtain ⟨⟨y1, y2, y3⟩, ⟨y4, y5, y6⟩⟩ := sq
                simp only at e3 e4 e5
                have H6 := Lib.hid (qcall (w := w1) (fun W _ => refRank_any y4 y5 y6 W))
                have H7 := Lib.hid (qcall (w := w1) (fun W _ => H5.out W))
                obtain ⟨t1, t2⟩ := rankR_bounds y4 y5 y6
                have Hpq' : Hid (prevLe l (q + 1) = rankR y4 y5 y6 + 2) := Hpq.out
                clear Hpq
                generalize rankR y4 y5 y6 = r3 at *
                have hw1 : IntKind.i64.wrap ((q : Int) + 1 - 1) = (q : Int) := (IntWalk.i64_in _ ⟨by omega, by omega⟩).trans (by omega)
                have hw2 : IntKind.i64.wrap (q : Int) = (q : Int) := IntWalk.i64_in _ ⟨by omega, by omega⟩
                have hw3 : IntKind.i64.wrap (r3 + 1) = r3 + 1 := IntWalk.i64_in _ ⟨by omega, by omega⟩
                have hq0 : (0 : Int) ≤ (q : Int) := by omega
                have hqn : (q : Int) < (n : Int) := by omega
                have hq1 : (0 : Int) < (q : Int) + 1 := by omega
                have hq2 : (q : Int) + 1 < (n : Int) := by omega
                have hq3 : (0 : Int) ≤ (q : Int) + 1 := by omega
                have r_d0 := cell_regrown d0
                have r_d1 := cell_regrown d1
                have r_d2 := cell_regrown d2
                have r_e3 := cell_regrown e3
                have r_e4 := cell_regrown e4
                have r_e5 := cell_regrown e5
                by_cases g1 : r1 ≤ r3 + 1
                · have He := Lib.hid (Hend.out (by rw [Hpq'.out, decide_eq_false (show ¬ r3 + 2 ≤ r1 by omega)]; rfl))
                  clear Hend Hon
                  go_wp2_with fail
                  refine wp_region_qb (by kernel_rfl) (by kernel_rfl) ?_
                  repeat (go_big_quiet_step (first | (with_reducible exact H6.out _ _) | (with_reducible exact H7.out _ _)))
                  refine wpQuiet_nil ?_
                  intro w2 B3
                  go_wp2_with fail
                  go_ret
                  exact ⟨ret_bool He.out.symm, bot B2 B3⟩
                · have He := Lib.hid (Hon.out (by rw [Hpq'.out, decide_eq_true (show r3 + 2 ≤ r1 by omega), decide_eq_true (show r1 ≤ r2 by omega)]; rfl))
                  clear Hend Hon
                  go_wp2_with fail
                  refine wp_region_qb (by kernel_rfl) (by kernel_rfl) ?_
                  repeat (go_big_quiet_step (first | (with_reducible exact H6.out _ _) | (with_reducible exact H7.out _ _)))
                  refine wpQuiet_nil ?_
                  intro w2 B3
                  go_wp2_with fail
                  go_roundw
                  case rel => exact ⟨q + 1 + 1, by omega, by go_num, He, bot B2 B3⟩
                  case measure => simp [intOf]; omega
      · have He : Hid (r = true) := by
          unfold Hid
          rw [Hs.out, hgo.out, List.drop_eq_nil_of_le (by have := Hnx.out; omega)]; rfl
        go_wp2_with fail
        go_ret
        exact ⟨ret_bool He.out.symm, hbel⟩
  · have Hs : Hid (spansB l = false) := spansB_big (by omega)
    clear hnx hl
    generalize spansB l = r at *
    have h64' : (64 : Int) < (n : Int) := by omega
    go_enter Tryz.func122, Tryz.ntmps122
    go_wp2_with fail
    go_ret
    exact ⟨ret_bool Hs.out.symm, Below.refl _ _⟩
end Go.Proofs.YtanipbpphbkmcaaGreatDoor
