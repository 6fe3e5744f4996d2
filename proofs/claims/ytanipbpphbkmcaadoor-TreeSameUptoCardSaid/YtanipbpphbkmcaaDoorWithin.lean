/-
  The document's within and Same of trees.
-/
import Derived.Test.YtanipbpphbkmcaaDoorTreeSame
set_option autoImplicit false
set_option relaxedAutoImplicit false
set_option linter.unusedVariables false
set_option linter.unusedSimpArgs false
namespace Go.Proofs.YtanipbpphbkmcaaDoor
open Go.Rows Go.RowKit Go.Shelf Go.Sort

theorem eqB_comm {α : Type} (x y : α) : eqB x y = eqB y x := by
  by_cases h : x = y
  · rw [eqB_true h, eqB_true h.symm]
  · rw [eqB_false h, eqB_false fun e => h e.symm]
theorem any_take {q : Dir → Bool} {l : List Dir} {k : Nat} (h : k < l.length) : (l.take (k + 1)).any q = ((l.take k).any q || q l[k]) := by
  rw [List.take_succ_eq_append_getElem h, List.any_append, List.any_cons, List.any_nil, Bool.or_false]

set_option maxHeartbeats 3200000 in
set_option maxRecDepth 100000 in
theorem refWithin_any (A B : Option Addr) (n c m e : Nat) (xs ys : List Dir) (w : World) (S T : Nat → Prop) (hx : SlV rDir w S xs (.slice A n c)) (hy : SlV rDir w T ys (.slice B m e)) :
    Calls Tryd.prog 19 #[.agg #[.slice A n c], .agg #[.slice B m e]] w fun e w' => e = .returned (.bool (inB xs ys)) ∧ Below w.heap.size w w' := by
  have hnx := hx.n_eq
  have hcx := hx.cap_le
  have hny := hy.n_eq
  have hcy := hy.cap_le
  unfold maxLen at hcx hcy
  have hn63 : n ≤ 9223372036854775807 := by omega
  have hm63 : m ≤ 9223372036854775807 := by omega
  have HX := Lib.hid (hx.more (S' := fun b => b < w.heap.size) fun b _ h => h)
  have HY := Lib.hid (hy.more (S' := fun b => b < w.heap.size) fun b _ h => h)
  have HR : Hid (inB xs ys = (xs.drop 0).all (fun d => ys.any (sameD d))) := rfl
  have Hnx := Lib.hid hnx; clear hnx
  have Hny := Lib.hid hny; clear hny
  clear hx hy hcx hcy
  generalize inB xs ys = R at *
  go_enter Tryd.func19, Tryd.ntmps19
  go_wp2_with fail
  obtain ⟨w0, hw0⟩ : ∃ w0, w0 = (w.alloc (.cells #[.slice A n c] 24)).alloc (.cells #[.slice B m e] 24) := ⟨_, rfl⟩
  have hz : w.heap.size < w0.heap.size := by rw [hw0]; simp [go_sem]
  have hz1 : w.heap.size + 1 < w0.heap.size := by rw [hw0]; simp [go_sem]
  have hb0 : Below w.heap.size w w0 := by rw [hw0]; exact bal (bal (Below.refl _ _) _) _
  have a0 : w0.cell? ⟨w.heap.size, 0, none⟩ = some (.slice A n c) := by rw [hw0]; simp [go_sem]
  have a1 : w0.cell? ⟨w.heap.size + 1, 0, none⟩ = some (.slice B m e) := by rw [hw0]; simp [go_sem]
  rw [← hw0]
  clear hw0
  have HB0 := Lib.hid hb0; clear hb0
  go_loopw [5] (fun i wr => ∃ k : Nat, k ≤ n ∧ i = .int .i64 k ∧ Hid (R = (xs.drop k).all (fun d => ys.any (sameD d))) ∧ Below w0.heap.size w0 wr) (fun i _ => n - (intOf i).toNat)
  case atStart => exact ⟨0, Nat.zero_le _, rfl, HR, Below.refl _ _⟩
  case round =>
    obtain ⟨k, hk, rfl, heq, hbel⟩ := hrel
    have b0 := below_cell hbel a0 hz
    have hbel' := bot HB0.out hbel
    by_cases hlt : k < n
    · have hkx : k < xs.length := by have := Hnx.out; omega
      have Hat := Lib.hid (all_at (q := fun d => ys.any (sameD d)) hkx)
      have Hend : Hid (ys.any (sameD xs[k]) = (ys.take ys.length).any (sameD xs[k])) := by unfold Hid; rw [List.take_length]
      have hk0 : (0 : Int) ≤ (k : Int) := by omega
      have hkn : (k : Int) < (n : Int) := by omega
      obtain ⟨wo, rfl⟩ : ∃ wo : World, wo = wr := ⟨_, rfl⟩
      go_wp2_with fail
      clear b0
      go_loopw [6, 7] (fun t i wr => ∃ q : Nat, q ≤ m ∧ t = .bool ((ys.take q).any (sameD xs[k])) ∧ i = .int .i64 q ∧ Below w0.heap.size w0 wr) (fun _ i _ => m - (intOf i).toNat)
      case atStart => exact ⟨0, Nat.zero_le _, rfl, rfl, hbel⟩
      case round =>
        clear hbel'
        obtain ⟨q, hq, rfl, rfl, hbel⟩ := hrel
        have b0 := below_cell hbel a0 hz
        have b1 := below_cell hbel a1 hz1
        have hbel' := bot HB0.out hbel
        by_cases hlq : q < m
        · have hqy : q < ys.length := by have := Hny.out; omega
          obtain ⟨b, oo, cs, rfl, _, hb1, hh, hcell⟩ := (HX.out.below hbel' (fun b h => h)).elem (List.getElem?_eq_getElem hkx)
          obtain ⟨b', oo', cs', rfl, _, hb2, hh', hcell'⟩ := (HY.out.below hbel' (fun b h => h)).elem (List.getElem?_eq_getElem hqy)
          obtain ⟨pA, pa, pB, pb, pC, pc, pD, pd, rfl, hp, hpk, hI⟩ := dir_cells hh
          obtain ⟨qA, qa, qB, qb, qC, qc, qD, qd, rfl, hp', hpk', hI'⟩ := dir_cells hh'
          have c0 := hcell 0 _ rfl
          have c1 := hcell 1 _ rfl
          have c2 := hcell 2 _ rfl
          have c3 := hcell 3 _ rfl
          have c4 := hcell 4 _ rfl
          have c5 := hcell 5 _ rfl
          have c6 := hcell 6 _ rfl
          have c7 := hcell 7 _ rfl
          have d0 := hcell' 0 _ rfl
          have d1 := hcell' 1 _ rfl
          have d2 := hcell' 2 _ rfl
          have d3 := hcell' 3 _ rfl
          have d4 := hcell' 4 _ rfl
          have d5 := hcell' 5 _ rfl
          have d6 := hcell' 6 _ rfl
          have d7 := hcell' 7 _ rfl
          simp only [rDir, Nat.add_zero] at c0 c1 c2 c3 c4 c5 c6 c7 d0 d1 d2 d3 d4 d5 d6 d7
          have Hp := Lib.hid (qcall (w := wr) (fun W hW => refPath_any _ _ _ _ _ _ xs[k].path ys[q].path W _ _ (hp.belowSize hW) (hp'.belowSize hW)))
          have Hs : Hid (∀ w1, Below wr.heap.size wr w1 → ∀ d os, Calls Tryd.prog 34 #[.agg #[.string xs[k].pack.name, .int .i64 xs[k].pack.ver.major, .int .i64 xs[k].pack.ver.minor, .int .i64 xs[k].pack.ver.patch, .slice pB xs[k].pack.deps.length pb, .slice pC xs[k].pack.peers.length pc, .slice pD xs[k].pack.opts.length pd], .agg #[.string ys[q].pack.name, .int .i64 ys[q].pack.ver.major, .int .i64 ys[q].pack.ver.minor, .int .i64 ys[q].pack.ver.patch, .slice qB ys[q].pack.deps.length qb, .slice qC ys[q].pack.peers.length qc, .slice qD ys[q].pack.opts.length qd]] (grow (redrawn w1 d) os) fun e w'' => e = .returned (.bool (eqB xs[k].pack ys[q].pack)) ∧ ∃ p : Regrown, w'' = grow (redrawn w1 p.d) p.os) :=
            fun w1 h1 => qcall (w := w1) (fun W hW => refSame_any _ _ _ _ W _ _ (hpk.keep (bot h1 hW)) (hpk'.keep (bot h1 hW)))
          have Htk : Hid ((ys.take (q + 1)).any (sameD xs[k]) = ((ys.take q).any (sameD xs[k]) || (eqB xs[k].path ys[q].path && eqB xs[k].pack ys[q].pack))) := by
            unfold Hid; rw [any_take hqy, eqB_comm xs[k].path, eqB_comm xs[k].pack]; rfl
          clear hcell hcell' hp hp' hpk hpk' hh hh' hI hI'
          have hq0 : (0 : Int) ≤ (q : Int) := by omega
          have hqm : (q : Int) < (m : Int) := by omega
          generalize (ys.take q).any (sameD xs[k]) = fd at *
          generalize eqB xs[k].path ys[q].path = vh at *
          generalize eqB xs[k].pack ys[q].pack = vs at *
          generalize xs[k].path.length = l0 at *
          generalize xs[k].pack.deps.length = l1 at *
          generalize xs[k].pack.peers.length = l2 at *
          generalize xs[k].pack.opts.length = l3 at *
          generalize xs[k].pack.name = nm at *
          generalize xs[k].pack.ver.major = y1 at *
          generalize xs[k].pack.ver.minor = y2 at *
          generalize xs[k].pack.ver.patch = y3 at *
          generalize ys[q].path.length = m0 at *
          generalize ys[q].pack.deps.length = m1 at *
          generalize ys[q].pack.peers.length = m2 at *
          generalize ys[q].pack.opts.length = m3 at *
          generalize ys[q].pack.name = nn at *
          generalize ys[q].pack.ver.major = z1 at *
          generalize ys[q].pack.ver.minor = z2 at *
          generalize ys[q].pack.ver.patch = z3 at *
          have r_b0 := cell_regrown b0
          have r_b1 := cell_regrown b1
          have r_c0 := cell_regrown c0
          have r_d0 := cell_regrown d0
          go_wp2_with fail
          refine wp_region_qb (by kernel_rfl) (by kernel_rfl) ?_
          repeat (go_big_quiet_step (first | (with_reducible exact Hp.out _ _)))
          refine wpQuiet_nil ?_
          intro w1 B1
          clear r_b0 r_b1 r_c0 r_d0 c0 d0 Hp
          have hzr : w.heap.size < wr.heap.size := Nat.lt_of_lt_of_le hz hbel.size
          have hzr1 : w.heap.size + 1 < wr.heap.size := Nat.lt_of_lt_of_le hz1 hbel.size
          have e0 := below_cell B1 b0 hzr
          have e1 := below_cell B1 b1 hzr1
          have f1 := below_cell B1 c1 hb1
          have f2 := below_cell B1 c2 hb1
          have f3 := below_cell B1 c3 hb1
          have f4 := below_cell B1 c4 hb1
          have f5 := below_cell B1 c5 hb1
          have f6 := below_cell B1 c6 hb1
          have f7 := below_cell B1 c7 hb1
          have g1 := below_cell B1 d1 hb2
          have g2 := below_cell B1 d2 hb2
          have g3 := below_cell B1 d3 hb2
          have g4 := below_cell B1 d4 hb2
          have g5 := below_cell B1 d5 hb2
          have g6 := below_cell B1 d6 hb2
          have g7 := below_cell B1 d7 hb2
          have Hs1 := Lib.hid (Hs.out w1 B1)
          clear b0 b1 c1 c2 c3 c4 c5 c6 c7 d1 d2 d3 d4 d5 d6 d7 Hs
          have r_e0 := cell_regrown e0
          have r_e1 := cell_regrown e1
          have r_f1 := cell_regrown f1
          have r_f2 := cell_regrown f2
          have r_f3 := cell_regrown f3
          have r_f4 := cell_regrown f4
          have r_f5 := cell_regrown f5
          have r_f6 := cell_regrown f6
          have r_f7 := cell_regrown f7
          have r_g1 := cell_regrown g1
          have r_g2 := cell_regrown g2
          have r_g3 := cell_regrown g3
          have r_g4 := cell_regrown g4
          have r_g5 := cell_regrown g5
          have r_g6 := cell_regrown g6
          have r_g7 := cell_regrown g7
          go_wp2_with fail
          refine wp_region_qb (by kernel_rfl) (by kernel_rfl) ?_
          repeat (go_big_quiet_step (first | (with_reducible exact Hs1.out _ _)))
          refine wpQuiet_nil ?_
          intro w2 B2
          have B3 := bot (bot hbel B1) B2
          clear r_e0 r_e1 r_f1 r_f2 r_f3 r_f4 r_f5 r_f6 r_f7 r_g1 r_g2 r_g3 r_g4 r_g5 r_g6 r_g7 Hs1 B1 B2 e0 e1 f1 f2 f3 f4 f5 f6 f7 g1 g2 g3 g4 g5 g6 g7
          cases fd <;> cases vh <;> cases vs <;>
            (go_wp2_with fail
             go_roundw
             case rel => exact ⟨q + 1, by omega, by rw [Htk.out]; rfl, by go_num, B3⟩
             case measure => simp [intOf]; omega)
        · have hqe : q = ys.length := by have := Hny.out; omega
          have Hv : Hid ((ys.take q).any (sameD xs[k]) = ys.any (sameD xs[k])) := by unfold Hid; rw [hqe, List.take_length]
          rw [Hv.out]
          clear Hv hqe
          generalize ys.any (sameD xs[k]) = sb at *
          cases sb
          · have He : Hid (R = false) := by unfold Hid; rw [heq.out, Hat.out]; rfl
            go_wp2_with fail
            go_ret
            exact ⟨ret_bool He.out.symm, hbel'⟩
          · have He : Hid (R = (xs.drop (k + 1)).all (fun d => ys.any (sameD d))) := by unfold Hid; rw [heq.out, Hat.out]; rfl
            go_wp2_with fail
            go_roundw
            case rel => exact ⟨k + 1, by omega, by go_num, He, hbel⟩
            case measure => simp [intOf]; omega
    · have He : Hid (R = true) := by unfold Hid; rw [heq.out, List.drop_eq_nil_of_le (by have := Hnx.out; omega)]; rfl
      go_wp2_with fail
      go_ret
      exact ⟨ret_bool He.out.symm, hbel'⟩

set_option maxHeartbeats 1600000 in
theorem refTreeSame_any (A B : Option Addr) (n c m e : Nat) (xs ys : List Dir) (w : World) (S T : Nat → Prop) (hx : SlV rDir w S xs (.slice A n c)) (hy : SlV rDir w T ys (.slice B m e)) :
    Calls Tryd.prog 7 #[.agg #[.slice A n c], .agg #[.slice B m e]] w fun e w' => e = .returned (.bool (inB xs ys && inB ys xs)) ∧ Below w.heap.size w w' := by
  have H1 : Hid (∀ W, Below w.heap.size w W → Calls Tryd.prog 19 #[.agg #[.slice A n c], .agg #[.slice B m e]] W fun e w' => e = .returned (.bool (inB xs ys)) ∧ Below W.heap.size W w') := fun W hW => refWithin_any _ _ _ _ _ _ _ _ _ _ _ (hx.belowSize hW) (hy.belowSize hW)
  have H2 : Hid (∀ W, Below w.heap.size w W → Calls Tryd.prog 19 #[.agg #[.slice B m e], .agg #[.slice A n c]] W fun e w' => e = .returned (.bool (inB ys xs)) ∧ Below W.heap.size W w') := fun W hW => refWithin_any _ _ _ _ _ _ _ _ _ _ _ (hy.belowSize hW) (hx.belowSize hW)
  clear hx hy
  generalize inB xs ys = v1 at *
  generalize inB ys xs = v2 at *
  go_enter Tryd.func7, Tryd.ntmps7
  go_wp2_with fail
  obtain ⟨w0, hw0⟩ : ∃ w0, w0 = (w.alloc (.cells #[.slice A n c] 24)).alloc (.cells #[.slice B m e] 24) := ⟨_, rfl⟩
  have hz : w.heap.size < w0.heap.size := by rw [hw0]; simp [go_sem]
  have hz1 : w.heap.size + 1 < w0.heap.size := by rw [hw0]; simp [go_sem]
  have hb0 : Below w.heap.size w w0 := by rw [hw0]; exact bal (bal (Below.refl _ _) _) _
  have a0 : w0.cell? ⟨w.heap.size, 0, none⟩ = some (.slice A n c) := by rw [hw0]; simp [go_sem]
  have a1 : w0.cell? ⟨w.heap.size + 1, 0, none⟩ = some (.slice B m e) := by rw [hw0]; simp [go_sem]
  rw [← hw0]
  clear hw0
  refine (H1.out w0 hb0).mono ?_
  rintro e w1 ⟨rfl, B1⟩
  have b0 := below_cell B1 a0 hz
  have b1 := below_cell B1 a1 hz1
  have B2 := bot hb0 B1
  cases v1
  · go_wp2_with fail
    go_ret
    exact ⟨rfl, B2⟩
  · go_wp2_with fail
    refine (H2.out w1 B2).mono ?_
    rintro e w2 ⟨rfl, B3⟩
    cases v2
    · go_wp2_with fail
      go_ret
      exact ⟨rfl, bot B2 B3⟩
    · go_wp2_with fail
      go_ret
      exact ⟨rfl, bot B2 B3⟩
end Go.Proofs.YtanipbpphbkmcaaDoor
