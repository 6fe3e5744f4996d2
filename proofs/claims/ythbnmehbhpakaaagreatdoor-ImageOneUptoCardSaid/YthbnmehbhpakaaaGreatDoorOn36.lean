/-
  The document's Alike of trees and Same of graphs, walked.
-/
import Derived.Test.YthbnmehbhpakaaaGreatDoorOn14
import Derived.Test.YthbnmehbhpakaaaGreatDoorOn15
set_option autoImplicit false
set_option relaxedAutoImplicit false
set_option linter.unusedVariables false
set_option linter.unusedSimpArgs false
namespace Go.Proofs.YthbnmehbhpakaaaGreatDoor
open Go.Rows Go.RowKit Go.Shelf Go.Sort

theorem eqDir {d e : Dir} (h1 : d.path = e.path) (h2 : d.pack = e.pack) (h3 : d.node = e.node) : d = e := by
  cases d; cases e; simp only at h1 h2 h3; rw [h1, h2, h3]

set_option maxHeartbeats 3200000 in
set_option maxRecDepth 100000 in
theorem alike_any (A B : Option Addr) (n c m e : Nat) (xs ys : List Dir) (w : World) (S T : Nat → Prop) (hx : SlV rDir w S xs (.slice A n c)) (hy : SlV rDir w T ys (.slice B m e)) :
    Calls Tryz.prog 14 #[.agg #[.slice A n c], .agg #[.slice B m e]] w fun e w' => e = .returned (.bool (eqB xs ys)) ∧ Below w.heap.size w w' := by
  have hnx := hx.n_eq
  have hcx := hx.cap_le
  have hny := hy.n_eq
  have hcy := hy.cap_le
  unfold maxLen at hcx hcy
  by_cases hnm : n = m
  case neg =>
    have hb : ((n : Int) != (m : Int)) = true := by simp; omega
    have He : Hid (eqB xs ys = false) := eqB_false (by rintro rfl; omega)
    clear hnx hny hcx hcy hx hy hnm
    generalize eqB xs ys = r at *
    go_enter Tryz.func14, Tryz.ntmps14
    go_wp2_with fail
    go_ret
    exact ⟨ret_bool He.out.symm, bal (bal (Below.refl _ _) _) _⟩
  have hb : ((n : Int) != (m : Int)) = false := by simp [hnm]
  have hn63 : n ≤ 9223372036854775807 := by omega
  have HX := Lib.hid (hx.more (S' := fun b => b < w.heap.size) fun b _ h => h)
  have HY := Lib.hid (hy.more (S' := fun b => b < w.heap.size) fun b _ h => h)
  have Hpos : Hid (xs = ys → eqB xs ys = true) := fun h => eqB_true h
  have Hneg : Hid (xs ≠ ys → eqB xs ys = false) := fun h => eqB_false h
  have Hnx := Lib.hid hnx; clear hnx
  have Hny := Lib.hid hny; clear hny
  have Hnm := Lib.hid hnm; clear hnm
  clear hx hy hcx hcy
  generalize eqB xs ys = R at *
  go_enter Tryz.func14, Tryz.ntmps14
  go_wp2_with fail
  obtain ⟨w0, hw0⟩ : ∃ w0, w0 = (w.alloc (.cells #[.slice A n c] 30)).alloc (.cells #[.slice B m e] 30) := ⟨_, rfl⟩
  have hz : w.heap.size < w0.heap.size := by rw [hw0]; simp [go_sem]
  have hz1 : w.heap.size + 1 < w0.heap.size := by rw [hw0]; simp [go_sem]
  have hb0 : Below w.heap.size w w0 := by rw [hw0]; exact bal (bal (Below.refl _ _) _) _
  have a0 : w0.cell? ⟨w.heap.size, 0, none⟩ = some (.slice A n c) := by rw [hw0]; simp [go_sem]
  have a1 : w0.cell? ⟨w.heap.size + 1, 0, none⟩ = some (.slice B m e) := by rw [hw0]; simp [go_sem]
  rw [← hw0]
  clear hw0
  have HB0 := Lib.hid hb0; clear hb0
  go_loopw [5] (fun i wr => ∃ k : Nat, k ≤ n ∧ i = .int .i64 k ∧ Hid (xs.take k = ys.take k) ∧ Below w0.heap.size w0 wr) (fun i _ => n - (intOf i).toNat)
  case atStart => exact ⟨0, Nat.zero_le _, rfl, by simp [Hid], Below.refl _ _⟩
  case round =>
    obtain ⟨k, hk, rfl, heq, hbel⟩ := hrel
    have b0 := below_cell hbel a0 hz
    have b1 := below_cell hbel a1 hz1
    have hbel' := bot HB0.out hbel
    by_cases hlt : k < n
    case neg =>
      have He : Hid (R = true) := Hpos.out (eq_of_takes heq.out (by have := Hnx.out; omega) (by have := Hny.out; have := Hnm.out; omega))
      go_wp2_with fail
      go_ret
      exact ⟨ret_bool He.out.symm, hbel'⟩
    have hkx : k < xs.length := by have := Hnx.out; omega
    have hky : k < ys.length := by have := Hny.out; have := Hnm.out; omega
    have hkm : k < m := by have := Hnm.out; omega
    obtain ⟨b, oo, cs, rfl, _, hb1, hh, hcell⟩ := (HX.out.below hbel' (fun b h => h)).elem (List.getElem?_eq_getElem hkx)
    obtain ⟨b', oo', cs', rfl, _, hb2, hh', hcell'⟩ := (HY.out.below hbel' (fun b h => h)).elem (List.getElem?_eq_getElem hky)
    obtain ⟨pA, pa, pB, pb, pC, pc, pD, pd, rfl, hp, hpk, hI⟩ := dir_cells hh
    obtain ⟨qA, qa, qB, qb, qC, qc, qD, qd, rfl, hp', hpk', hI'⟩ := dir_cells hh'
    have c0 := hcell 0 _ rfl
    have c1 := hcell 1 _ rfl
    have c2 := hcell 2 _ rfl
    have c3 := hcell 3 _ rfl
    have c4 := hcell 4 _ rfl
    have c5 := hcell 5 _ rfl
    have c6 := hcell 6 _ rfl
    have c7 := hcell 7 _ rfl
    have c8 := hcell 8 _ rfl
    have d0 := hcell' 0 _ rfl
    have d1 := hcell' 1 _ rfl
    have d2 := hcell' 2 _ rfl
    have d3 := hcell' 3 _ rfl
    have d4 := hcell' 4 _ rfl
    have d5 := hcell' 5 _ rfl
    have d6 := hcell' 6 _ rfl
    have d7 := hcell' 7 _ rfl
    have d8 := hcell' 8 _ rfl
    simp only [rDir, Nat.add_zero] at c0 c1 c2 c3 c4 c5 c6 c7 c8 d0 d1 d2 d3 d4 d5 d6 d7 d8
    have Hp := Lib.hid (qcall (w := wr) (fun W hW => refPath_any _ _ _ _ _ _ xs[k].path ys[k].path W _ _ (hp.belowSize hW) (hp'.belowSize hW)))
    have Hs : Hid (∀ w1, Below wr.heap.size wr w1 → ∀ d os, Calls Tryz.prog 55 #[.agg #[.string xs[k].pack.name, .int .i64 xs[k].pack.ver.major, .int .i64 xs[k].pack.ver.minor, .int .i64 xs[k].pack.ver.patch, .slice pB xs[k].pack.deps.length pb, .slice pC xs[k].pack.peers.length pc, .slice pD xs[k].pack.opts.length pd], .agg #[.string ys[k].pack.name, .int .i64 ys[k].pack.ver.major, .int .i64 ys[k].pack.ver.minor, .int .i64 ys[k].pack.ver.patch, .slice qB ys[k].pack.deps.length qb, .slice qC ys[k].pack.peers.length qc, .slice qD ys[k].pack.opts.length qd]] (grow (redrawn w1 d) os) fun e w'' => e = .returned (.bool (eqB xs[k].pack ys[k].pack)) ∧ ∃ p : Regrown, w'' = grow (redrawn w1 p.d) p.os) :=
      fun w1 h1 => qcall (w := w1) (fun W hW => refSame_any _ _ _ _ W _ _ (hpk.keep (bot h1 hW)) (hpk'.keep (bot h1 hW)))
    have Hq1 : Hid (eqB xs[k].path ys[k].path = true → eqB xs[k].pack ys[k].pack = true → xs[k].node = ys[k].node → xs.take (k + 1) = ys.take (k + 1)) := fun h1 h2 h3 => take_next heq.out hkx hky (eqDir (eqB_iff.1 h1) (eqB_iff.1 h2) h3)
    have Hno : Hid (xs[k] ≠ ys[k] → R = false) := fun h => Hneg.out (ne_at hkx hky h)
    have Hq2 : Hid (eqB xs[k].path ys[k].path = false → R = false) := fun h => Hno.out fun e => by rw [e, eqB_true rfl] at h; cases h
    have Hq3 : Hid (eqB xs[k].pack ys[k].pack = false → R = false) := fun h => Hno.out fun e => by rw [e, eqB_true rfl] at h; cases h
    have Hq4 : Hid (xs[k].node ≠ ys[k].node → R = false) := fun h => Hno.out fun e => h (by rw [e])
    clear hcell hcell' hp hp' hpk hpk' hh hh' hI hI' Hno
    have hk0 : (0 : Int) ≤ (k : Int) := by omega
    have hkn : (k : Int) < (n : Int) := by omega
    have hkm' : (k : Int) < (m : Int) := by omega
    generalize eqB xs[k].path ys[k].path = vh at *
    generalize eqB xs[k].pack ys[k].pack = vs at *
    generalize xs[k].path.length = l0 at *
    generalize xs[k].pack.deps.length = l1 at *
    generalize xs[k].pack.peers.length = l2 at *
    generalize xs[k].pack.opts.length = l3 at *
    generalize xs[k].pack.name = nm at *
    generalize xs[k].pack.ver.major = y1 at *
    generalize xs[k].pack.ver.minor = y2 at *
    generalize xs[k].pack.ver.patch = y3 at *
    generalize xs[k].node = nx at *
    generalize ys[k].path.length = m0 at *
    generalize ys[k].pack.deps.length = m1 at *
    generalize ys[k].pack.peers.length = m2 at *
    generalize ys[k].pack.opts.length = m3 at *
    generalize ys[k].pack.name = nn at *
    generalize ys[k].pack.ver.major = z1 at *
    generalize ys[k].pack.ver.minor = z2 at *
    generalize ys[k].pack.ver.patch = z3 at *
    generalize ys[k].node = ny at *
    have r_b0 := cell_regrown b0
    have r_b1 := cell_regrown b1
    have r_c0 := cell_regrown c0
    have r_d0 := cell_regrown d0
    go_wp2_with fail
    refine wp_region_qb (by kernel_rfl) (by kernel_rfl) ?_
    repeat (go_big_quiet_step (first | (with_reducible exact Hp.out _ _)))
    refine wpQuiet_nil ?_
    intro w1 B1
    clear r_b0 r_b1 r_c0 r_d0 c0 d0 Hp
    have hzr : w.heap.size < wr.heap.size := Nat.lt_of_lt_of_le hz hbel.size
    have hzr1 : w.heap.size + 1 < wr.heap.size := Nat.lt_of_lt_of_le hz1 hbel.size
    have e0 := below_cell B1 b0 hzr
    have e1 := below_cell B1 b1 hzr1
    have f1 := below_cell B1 c1 hb1
    have f2 := below_cell B1 c2 hb1
    have f3 := below_cell B1 c3 hb1
    have f4 := below_cell B1 c4 hb1
    have f5 := below_cell B1 c5 hb1
    have f6 := below_cell B1 c6 hb1
    have f7 := below_cell B1 c7 hb1
    have f8 := below_cell B1 c8 hb1
    have g1 := below_cell B1 d1 hb2
    have g2 := below_cell B1 d2 hb2
    have g3 := below_cell B1 d3 hb2
    have g4 := below_cell B1 d4 hb2
    have g5 := below_cell B1 d5 hb2
    have g6 := below_cell B1 d6 hb2
    have g7 := below_cell B1 d7 hb2
    have g8 := below_cell B1 d8 hb2
    have Hs1 := Lib.hid (Hs.out w1 B1)
    have hzw : w.heap.size < w1.heap.size := Nat.lt_of_lt_of_le hzr B1.size
    have hzw1 : w.heap.size + 1 < w1.heap.size := Nat.lt_of_lt_of_le hzr1 B1.size
    have hbw1 : b < w1.heap.size := Nat.lt_of_lt_of_le hb1 B1.size
    have hbw2 : b' < w1.heap.size := Nat.lt_of_lt_of_le hb2 B1.size
    clear b0 b1 c1 c2 c3 c4 c5 c6 c7 c8 d1 d2 d3 d4 d5 d6 d7 d8 Hs
    have r_e0 := cell_regrown e0
    have r_e1 := cell_regrown e1
    have r_f1 := cell_regrown f1
    have r_f2 := cell_regrown f2
    have r_f3 := cell_regrown f3
    have r_f4 := cell_regrown f4
    have r_f5 := cell_regrown f5
    have r_f6 := cell_regrown f6
    have r_f7 := cell_regrown f7
    have r_g1 := cell_regrown g1
    have r_g2 := cell_regrown g2
    have r_g3 := cell_regrown g3
    have r_g4 := cell_regrown g4
    have r_g5 := cell_regrown g5
    have r_g6 := cell_regrown g6
    have r_g7 := cell_regrown g7
    go_wp2_with fail
    refine wp_region_qb (by kernel_rfl) (by kernel_rfl) ?_
    repeat (go_big_quiet_step (first | (with_reducible exact Hs1.out _ _)))
    refine wpQuiet_nil ?_
    intro w2 B2
    have B3 := bot (bot hbel B1) B2
    have h0 := below_cell B2 e0 hzw
    have h1 := below_cell B2 e1 hzw1
    have i8 := below_cell B2 f8 hbw1
    have j8 := below_cell B2 g8 hbw2
    clear r_e0 r_e1 r_f1 r_f2 r_f3 r_f4 r_f5 r_f6 r_f7 r_g1 r_g2 r_g3 r_g4 r_g5 r_g6 r_g7 Hs1 B1 B2 e0 e1 f1 f2 f3 f4 f5 f6 f7 f8 g1 g2 g3 g4 g5 g6 g7 g8
    have r_h0 := cell_regrown h0
    have r_h1 := cell_regrown h1
    have r_i8 := cell_regrown i8
    have r_j8 := cell_regrown j8
    cases vh with
    | false =>
      have He := Lib.hid (Hq2.out rfl)
      clear Hq1 Hq2 Hq3 Hq4
      cases vs
      · go_wp2_with fail
        refine wp_region_qb (by kernel_rfl) (by kernel_rfl) ?_
        repeat (go_big_quiet_step (first | fail))
        refine wpQuiet_nil ?_
        intro w3 B4
        go_wp2_with fail
        go_ret
        exact ⟨ret_bool He.out.symm, bot HB0.out (bot B3 B4)⟩
      · go_wp2_with fail
        refine wp_region_qb (by kernel_rfl) (by kernel_rfl) ?_
        repeat (go_big_quiet_step (first | fail))
        refine wpQuiet_nil ?_
        intro w3 B4
        go_wp2_with fail
        go_ret
        exact ⟨ret_bool He.out.symm, bot HB0.out (bot B3 B4)⟩
    | true =>
    cases vs with
    | false =>
      have He := Lib.hid (Hq3.out rfl)
      clear Hq1 Hq2 Hq3 Hq4
      go_wp2_with fail
      refine wp_region_qb (by kernel_rfl) (by kernel_rfl) ?_
      repeat (go_big_quiet_step (first | fail))
      refine wpQuiet_nil ?_
      intro w3 B4
      go_wp2_with fail
      go_ret
      exact ⟨ret_bool He.out.symm, bot HB0.out (bot B3 B4)⟩
    | true =>
    by_cases hnn : nx = ny
    case neg =>
      have He := Lib.hid (Hq4.out hnn)
      have hbn : (nx != ny) = true := by simp [hnn]
      clear Hq1 Hq2 Hq3 Hq4 hnn
      go_wp2_with fail
      refine wp_region_qb (by kernel_rfl) (by kernel_rfl) ?_
      repeat (go_big_quiet_step (first | fail))
      refine wpQuiet_nil ?_
      intro w3 B4
      go_wp2_with fail
      go_ret
      exact ⟨ret_bool He.out.symm, bot HB0.out (bot B3 B4)⟩
    have He := Lib.hid (Hq1.out rfl rfl hnn)
    have hbn : (nx != ny) = false := by simp [hnn]
    clear Hq1 Hq2 Hq3 Hq4 hnn
    go_wp2_with fail
    refine wp_region_qb (by kernel_rfl) (by kernel_rfl) ?_
    repeat (go_big_quiet_step (first | fail))
    refine wpQuiet_nil ?_
    intro w3 B4
    go_wp2_with fail
    go_roundw
    case rel => exact ⟨k + 1, by omega, by go_num, He, bot B3 B4⟩
    case measure => simp [intOf]; omega

theorem neq_pin (w : World) (s t : ByteArray) (a b c d e f : Int) :
    (binOp .neq 107 (.agg #[.string s, .int .i64 a, .int .i64 b, .int .i64 c]) (.agg #[.string t, .int .i64 d, .int .i64 e, .int .i64 f])).run Tryz.prog w = .ok (.bool (!eqB (⟨s, ⟨a, b, c⟩⟩ : Pin) ⟨t, ⟨d, e, f⟩⟩)) w := by
  have hu' := Tryz.underlying107
  have hu : Tryz.prog.underlying 107 = some (.struct (Tryz.prog.fieldsOf 107)) := by kernel_rfl
  have hs : Tryz.prog.stoodInHeld 107 = false := by kernel_rfl
  have h3 : ∀ w, (isAgg 9).run Tryz.prog w = .ok false w := fun _ => by kernel_rfl
  have h4 : ∀ w, (isAgg 55).run Tryz.prog w = .ok true w := fun _ => by kernel_rfl
  have h5 : ∀ w, (sizeOf 55).run Tryz.prog w = .ok 3 w := fun _ => by kernel_rfl
  rw [run_neq_struct, show (10000 : Nat) = 9997 + 3 from rfl, show 9997 + 3 = (9997 + 2) + 1 from rfl, run_equalIn_agg _ _ _ _ _ hu hs]
  have he : ∀ (x y : ByteArray) (w : World), (Op.equalIn (9997 + 2) 9 (.string x) (.string y)).run Tryz.prog w = .ok (x.toList == y.toList) w := fun x y w => by
    rw [show 9997 + 2 = (9998) + 1 from rfl, run_equalIn_string (h := Tryz.underlying9)]
  have hv : ∀ (a b c d e f : Int) (w : World), (Op.equalIn (9997 + 2) 55 (.agg #[.int .i64 a, .int .i64 b, .int .i64 c]) (.agg #[.int .i64 d, .int .i64 e, .int .i64 f])).run Tryz.prog w = .ok (decide (a = d ∧ b = e ∧ c = f)) w := fun a b c d e f w => by
    rw [equalIn_ver]
  generalize 9997 + 2 = D at *
  have hx : ∀ x y : ByteArray, (x.toList == y.toList) = true ↔ x = y := fun x y => by
    rw [beq_iff_eq]
    constructor
    · intro h
      rw [Go.ByteArray.toList_eq, Go.ByteArray.toList_eq] at h
      exact ByteArray.ext (Array.toList_inj.1 h)
    · intro h; rw [h]
  by_cases g1 : s = t
  · by_cases g2 : a = d ∧ b = e ∧ c = f
    · have hr : eqB (⟨s, ⟨a, b, c⟩⟩ : Pin) ⟨t, ⟨d, e, f⟩⟩ = true := eqB_true (by rw [g1, g2.1, g2.2.1, g2.2.2])
      rw [hr]
      simp [Program.fieldsOf, hu', Op.eqFields, part, h3, h4, h5, he, hv, g1, g2]
    · have hr : eqB (⟨s, ⟨a, b, c⟩⟩ : Pin) ⟨t, ⟨d, e, f⟩⟩ = false := eqB_false (fun h => g2 (by injection h with h1 h2; injection h2 with h3 h4 h5; exact ⟨h3, h4, h5⟩))
      rw [hr]
      simp [Program.fieldsOf, hu', Op.eqFields, part, h3, h4, h5, he, hv, g1, g2]
  · have hr : eqB (⟨s, ⟨a, b, c⟩⟩ : Pin) ⟨t, ⟨d, e, f⟩⟩ = false := eqB_false (fun h => g1 (by injection h))
    have h9 : (s.toList == t.toList) = false := by cases h : (s.toList == t.toList) with
      | false => rfl
      | true => exact absurd ((hx _ _).1 h) g1
    rw [hr]
    simp [Program.fieldsOf, hu', Op.eqFields, part, h3, h4, h5, he, hv, h9]
theorem neq_edge (w : World) (s t : ByteArray) (a b : Int) :
    (binOp .neq 65 (.agg #[.string s, .int .i64 a]) (.agg #[.string t, .int .i64 b])).run Tryz.prog w = .ok (.bool (!eqB (⟨s, a⟩ : Edge) ⟨t, b⟩)) w := by
  have hu' := Tryz.underlying65
  have hu : Tryz.prog.underlying 65 = some (.struct (Tryz.prog.fieldsOf 65)) := by kernel_rfl
  have hs : Tryz.prog.stoodInHeld 65 = false := by kernel_rfl
  have h3 : ∀ w, (isAgg 9).run Tryz.prog w = .ok false w := fun _ => by kernel_rfl
  have h4 : ∀ w, (isAgg 3).run Tryz.prog w = .ok false w := fun _ => by kernel_rfl
  rw [run_neq_struct, show (10000 : Nat) = 9998 + 2 from rfl, show 9998 + 2 = (9998 + 1) + 1 from rfl, run_equalIn_agg _ _ _ _ _ hu hs]
  have he : ∀ (x y : ByteArray) (w : World), (Op.equalIn (9998 + 1) 9 (.string x) (.string y)).run Tryz.prog w = .ok (x.toList == y.toList) w := fun x y w => by
    rw [run_equalIn_string (h := Tryz.underlying9)]
  have hi : ∀ (x y : Int) (w : World), (Op.equalIn (9998 + 1) 3 (.int .i64 x) (.int .i64 y)).run Tryz.prog w = .ok (x == y) w := fun x y w => by
    rw [run_equalIn_int (k' := .i64) (h := Tryz.underlying3)]
  generalize 9998 + 1 = D at *
  have hx : ∀ x y : ByteArray, (x.toList == y.toList) = true ↔ x = y := fun x y => by
    rw [beq_iff_eq]
    constructor
    · intro h
      rw [Go.ByteArray.toList_eq, Go.ByteArray.toList_eq] at h
      exact ByteArray.ext (Array.toList_inj.1 h)
    · intro h; rw [h]
  by_cases g1 : s = t
  · by_cases g2 : a = b
    · have hr : eqB (⟨s, a⟩ : Edge) ⟨t, b⟩ = true := eqB_true (by rw [g1, g2])
      rw [hr]
      simp [Program.fieldsOf, hu', Op.eqFields, part, h3, h4, he, hi, g1, g2]
    · have hr : eqB (⟨s, a⟩ : Edge) ⟨t, b⟩ = false := eqB_false (fun h => g2 (by injection h))
      rw [hr]
      simp [Program.fieldsOf, hu', Op.eqFields, part, h3, h4, he, hi, g1, g2]
  · have hr : eqB (⟨s, a⟩ : Edge) ⟨t, b⟩ = false := eqB_false (fun h => g1 (by injection h))
    have h9 : (s.toList == t.toList) = false := by cases h : (s.toList == t.toList) with
      | false => rfl
      | true => exact absurd ((hx _ _).1 h) g1
    rw [hr]
    simp [Program.fieldsOf, hu', Op.eqFields, part, h3, h4, he, hi, h9]
theorem eqVer {x y : Ver} (h : x.major = y.major ∧ x.minor = y.minor ∧ x.patch = y.patch) : x = y := by
  cases x; cases y; simp only at h; rw [h.1, h.2.1, h.2.2]
theorem eqNode {x y : Node} (h1 : x.name = y.name) (h2 : x.ver = y.ver) (h3 : x.ctx = y.ctx) (h4 : x.edges = y.edges) : x = y := by
  cases x; cases y; simp only at h1 h2 h3 h4; rw [h1, h2, h3, h4]
set_option maxHeartbeats 6400000 in
set_option maxRecDepth 100000 in
theorem lockSame_any (A B : Option Addr) (n c m e : Nat) (xs ys : List Node) (w : World) (S T : Nat → Prop) (hx : SlV rNode w S xs (.slice A n c)) (hy : SlV rNode w T ys (.slice B m e)) :
    Calls Tryz.prog 15 #[.agg #[.slice A n c], .agg #[.slice B m e]] w fun e w' => e = .returned (.bool (eqB xs ys)) ∧ Below w.heap.size w w' := by
  have hnx := hx.n_eq
  have hcx := hx.cap_le
  have hny := hy.n_eq
  have hcy := hy.cap_le
  unfold maxLen at hcx hcy
  by_cases hnm : n = m
  case neg =>
    have hb : ((n : Int) != (m : Int)) = true := by simp; omega
    have He : Hid (eqB xs ys = false) := eqB_false (by rintro rfl; omega)
    clear hnx hny hcx hcy hx hy hnm
    generalize eqB xs ys = r at *
    go_enter Tryz.func15, Tryz.ntmps15
    go_wp2_with fail
    go_ret
    exact ⟨ret_bool He.out.symm, bal (bal (Below.refl _ _) _) _⟩
  have hb : ((n : Int) != (m : Int)) = false := by simp [hnm]
  have hn63 : n ≤ 9223372036854775807 := by omega
  have HX := Lib.hid (hx.more (S' := fun b => b < w.heap.size) fun b _ h => h)
  have HY := Lib.hid (hy.more (S' := fun b => b < w.heap.size) fun b _ h => h)
  have Hpos : Hid (xs = ys → eqB xs ys = true) := fun h => eqB_true h
  have Hneg : Hid (xs ≠ ys → eqB xs ys = false) := fun h => eqB_false h
  have Hnx := Lib.hid hnx; clear hnx
  have Hny := Lib.hid hny; clear hny
  have Hnm := Lib.hid hnm; clear hnm
  clear hx hy hcx hcy
  generalize eqB xs ys = R at *
  go_enter Tryz.func15, Tryz.ntmps15
  go_wp2_with fail
  obtain ⟨w0, hw0⟩ : ∃ w0, w0 = (w.alloc (.cells #[.slice A n c] 27)).alloc (.cells #[.slice B m e] 27) := ⟨_, rfl⟩
  have hz : w.heap.size < w0.heap.size := by rw [hw0]; simp [go_sem]
  have hz1 : w.heap.size + 1 < w0.heap.size := by rw [hw0]; simp [go_sem]
  have hb0 : Below w.heap.size w w0 := by rw [hw0]; exact bal (bal (Below.refl _ _) _) _
  have a0 : w0.cell? ⟨w.heap.size, 0, none⟩ = some (.slice A n c) := by rw [hw0]; simp [go_sem]
  have a1 : w0.cell? ⟨w.heap.size + 1, 0, none⟩ = some (.slice B m e) := by rw [hw0]; simp [go_sem]
  rw [← hw0]
  clear hw0
  have HB0 := Lib.hid hb0; clear hb0
  have HA0 : Hid (w0.cell? ⟨w.heap.size, 0, none⟩ = some (.slice A n c) ∧ w0.cell? ⟨w.heap.size + 1, 0, none⟩ = some (.slice B m e)) := ⟨a0, a1⟩
  clear a0 a1
  go_loopw [5] (fun i wr => ∃ k : Nat, k ≤ n ∧ i = .int .i64 k ∧ Hid (xs.take k = ys.take k) ∧ Hid (Below w0.heap.size w0 wr)) (fun i _ => n - (intOf i).toNat)
  case atStart => exact ⟨0, Nat.zero_le _, rfl, by simp [Hid], Below.refl _ _⟩
  case round =>
    obtain ⟨k, hk, rfl, heq, hbel⟩ := hrel
    have b0 := below_cell hbel.out HA0.out.1 hz
    have b1 := below_cell hbel.out HA0.out.2 hz1
    by_cases hlt : k < n
    case neg =>
      have He : Hid (R = true) := Hpos.out (eq_of_takes heq.out (by have := Hnx.out; omega) (by have := Hny.out; have := Hnm.out; omega))
      have Hb' := Lib.hid (bot HB0.out hbel.out)
      go_wp2_with fail
      go_ret
      exact ⟨ret_bool He.out.symm, Hb'.out⟩
    have hkx : k < xs.length := by have := Hnx.out; omega
    have hky : k < ys.length := by have := Hny.out; have := Hnm.out; omega
    have hkm : k < m := by have := Hnm.out; omega
    have Hno : Hid (xs[k] ≠ ys[k] → R = false) := fun h => Hneg.out (ne_at hkx hky h)
    have Hnx2 : Hid (xs[k] = ys[k] → xs.take (k + 1) = ys.take (k + 1)) := fun h => take_next heq.out hkx hky h
    obtain ⟨b, oo, cs, hA, _, hb1, hh, hcell⟩ := (HX.out.below (bot HB0.out hbel.out) (fun b h => h)).elem (List.getElem?_eq_getElem hkx)
    obtain ⟨b', oo', cs', hA', _, hb2, hh', hcell'⟩ := (HY.out.below (bot HB0.out hbel.out) (fun b h => h)).elem (List.getElem?_eq_getElem hky)
    subst hA hA'
    generalize xs[k] = x at *
    generalize ys[k] = y at *
    obtain ⟨s0, s1, rfl, _, _, _, _, hp, he⟩ := hh
    obtain ⟨t0, t1, rfl, _, _, _, _, hp', he'⟩ := hh'
    have c0 := hcell 0 _ rfl
    have c1 := hcell 1 _ rfl
    have c2 := hcell 2 _ rfl
    have c3 := hcell 3 _ rfl
    have c4 := hcell 4 _ rfl
    have c5 := hcell 5 _ rfl
    have d0 := hcell' 0 _ rfl
    have d1 := hcell' 1 _ rfl
    have d2 := hcell' 2 _ rfl
    have d3 := hcell' 3 _ rfl
    have d4 := hcell' 4 _ rfl
    have d5 := hcell' 5 _ rfl
    simp only [rNode, Nat.add_zero] at c0 c1 c2 c3 c4 c5 d0 d1 d2 d3 d4 d5
    clear hcell hcell'
    obtain ⟨pA, pc, rfl, _, _⟩ := hp.val
    obtain ⟨eA, ec, rfl, _, _⟩ := he.val
    obtain ⟨qA, qc, rfl, _, _⟩ := hp'.val
    obtain ⟨gA, gc, rfl, _, _⟩ := he'.val
    have hpc := hp.cap_le
    have hec := he.cap_le
    unfold maxLen at hpc hec
    obtain ⟨pn, hpn⟩ : ∃ n, n = x.ctx.length := ⟨_, rfl⟩
    obtain ⟨en, hen⟩ : ∃ n, n = x.edges.length := ⟨_, rfl⟩
    obtain ⟨qn, hqn⟩ : ∃ n, n = y.ctx.length := ⟨_, rfl⟩
    obtain ⟨gn, hgn⟩ : ∃ n, n = y.edges.length := ⟨_, rfl⟩
    rw [← hpn] at hp c4 hpc
    rw [← hen] at he c5 hec
    rw [← hqn] at hp' d4
    rw [← hgn] at he' d5
    have HP : Hid (∀ W, Below wr.heap.size wr W → SlV rPin W (fun b => b < w.heap.size) x.ctx (.slice pA pn pc)) := fun W hW => hp.belowSize hW
    have HE : Hid (∀ W, Below wr.heap.size wr W → SlV rEdge W (fun b => b < w.heap.size) x.edges (.slice eA en ec)) := fun W hW => he.belowSize hW
    have HP' : Hid (∀ W, Below wr.heap.size wr W → SlV rPin W (fun b => b < w.heap.size) y.ctx (.slice qA qn qc)) := fun W hW => hp'.belowSize hW
    have HE' : Hid (∀ W, Below wr.heap.size wr W → SlV rEdge W (fun b => b < w.heap.size) y.edges (.slice gA gn gc)) := fun W hW => he'.belowSize hW
    clear hp he hp' he'
    have Hpn := Lib.hid hpn; clear hpn
    have Hen := Lib.hid hen; clear hen
    have Hqn := Lib.hid hqn; clear hqn
    have Hgn := Lib.hid hgn; clear hgn
    have hk0 : (0 : Int) ≤ (k : Int) := by omega
    have hkn : (k : Int) < (n : Int) := by omega
    have hkm' : (k : Int) < (m : Int) := by omega
    have hneq := fun W => neq_ver W x.ver.major x.ver.minor x.ver.patch y.ver.major y.ver.minor y.ver.patch
    have Hv1 : Hid (¬ (x.ver.major = y.ver.major ∧ x.ver.minor = y.ver.minor ∧ x.ver.patch = y.ver.patch) → R = false) := fun h => Hno.out fun e => h (by rw [e]; exact ⟨rfl, rfl, rfl⟩)
    have Hv2 : Hid ((x.ver.major = y.ver.major ∧ x.ver.minor = y.ver.minor ∧ x.ver.patch = y.ver.patch) → x.ver = y.ver) := fun h => eqVer h
    have Hn1 : Hid (x.name ≠ y.name → R = false) := fun h => Hno.out fun e => h (by rw [e])
    have Hc1 : Hid (pn ≠ qn → R = false) := fun h => Hno.out fun e => h (by rw [Hpn.out, Hqn.out, e])
    have Hg1 : Hid (en ≠ gn → R = false) := fun h => Hno.out fun e => h (by rw [Hen.out, Hgn.out, e])
    have Hc2 : Hid (x.ctx ≠ y.ctx → R = false) := fun h => Hno.out fun e => h (by rw [e])
    have Hg2 : Hid (x.edges ≠ y.edges → R = false) := fun h => Hno.out fun e => h (by rw [e])
    have Hall : Hid (x.name = y.name → x.ver = y.ver → x.ctx = y.ctx → x.edges = y.edges → xs.take (k + 1) = ys.take (k + 1)) := fun h1 h2 h3 h4 => Hnx2.out (eqNode h1 h2 h3 h4)
    clear Hno Hnx2 heq
    generalize x.name = xm at *
    generalize y.name = ym at *
    generalize x.ver.major = x1 at *
    generalize x.ver.minor = x2 at *
    generalize x.ver.patch = x3 at *
    generalize y.ver.major = y1 at *
    generalize y.ver.minor = y2 at *
    generalize y.ver.patch = y3 at *
    generalize x.ver = xv at *
    generalize y.ver = yv at *
    generalize x.ctx = cx at *
    generalize y.ctx = cy at *
    generalize x.edges = ex at *
    generalize y.edges = ey at *
    clear x y
    obtain ⟨wo, rfl⟩ : ∃ wo : World, wo = wr := ⟨_, rfl⟩
    have hzo : w.heap.size + 1 < wo.heap.size := Nat.lt_of_lt_of_le hz1 hbel.out.size
    go_upto_region 7 with (fail)
    obtain ⟨QB, hQB⟩ : ∃ QB, QB = wo.heap.size := ⟨_, rfl⟩
    obtain ⟨w3, hw3⟩ : ∃ w3, w3 = wo.alloc (.cells #[.string xm, .int .i64 x1, .int .i64 x2, .int .i64 x3, .slice pA pn pc, .slice eA en ec] 63) := ⟨_, rfl⟩
    have hs3 : w3.heap.size = QB + 1 := by rw [hw3, hQB]; simp [go_sem]
    have hb3 : Below wo.heap.size wo w3 := by rw [hw3]; exact bal (Below.refl _ _) _
    have hX3 : w3.heap[QB]? = some (.cells #[.string xm, .int .i64 x1, .int .i64 x2, .int .i64 x3, .slice pA pn pc, .slice eA en ec] 63 (0, 0)) := by rw [hw3, hQB]; exact heap_new _ _
    rw [← hw3, ← hQB]
    have b1' := below_cell hb3 b1 hzo
    have d0' := below_cell hb3 d0 hb2
    have d1' := below_cell hb3 d1 hb2
    have d2' := below_cell hb3 d2 hb2
    have d3' := below_cell hb3 d3 hb2
    have d4' := below_cell hb3 d4 hb2
    have d5' := below_cell hb3 d5 hb2
    clear hw3 b0 b1 c0 c1 c2 c3 c4 c5 d0 d1 d2 d3 d4 d5
    have HX3 := Lib.hid hX3
    have HB3 := Lib.hid hb3
    have Hs3 := Lib.hid hs3
    clear hX3 hb3 hs3 hQB
    go_upto_region 8 with (fail)
    rw [Hs3.out]
    obtain ⟨w4, hw4⟩ : ∃ w4, w4 = w3.alloc (.cells #[.string ym, .int .i64 y1, .int .i64 y2, .int .i64 y3, .slice qA qn qc, .slice gA gn gc] 63) := ⟨_, rfl⟩
    have HX4 : Hid (w4.heap[QB]? = some (.cells #[.string xm, .int .i64 x1, .int .i64 x2, .int .i64 x3, .slice pA pn pc, .slice eA en ec] 63 (0, 0))) := by
      unfold Hid
      rw [hw4]
      exact ((bal (Below.refl _ _) _).block _ (by rw [Hs3.out]; omega)).trans HX3.out
    have HY4 : Hid (w4.heap[QB + 1]? = some (.cells #[.string ym, .int .i64 y1, .int .i64 y2, .int .i64 y3, .slice qA qn qc, .slice gA gn gc] 63 (0, 0))) := by
      unfold Hid
      rw [hw4]
      have := heap_new w3 (.cells #[.string ym, .int .i64 y1, .int .i64 y2, .int .i64 y3, .slice qA qn qc, .slice gA gn gc] 63)
      rwa [Hs3.out] at this
    have HB4 : Hid (Below wo.heap.size wo w4) := by unfold Hid; rw [hw4]; exact bot HB3.out (bal (Below.refl _ _) _)
    have HBo : Hid (∀ W, Below wo.heap.size wo W → Below w0.heap.size w0 W) := fun W hW => bot hbel.out hW
    rw [← hw4]
    clear hw4 b1' d0' d1' d2' d3' d4' d5' hbel HX3 HB3 Hs3
    have p0 : w4.cell? ⟨QB, 0, none⟩ = some (.string xm) := cell_of_row _ _ 0 _ _ _ HX4.out
    have p1 : w4.cell? ⟨QB, 1, none⟩ = some (.int .i64 x1) := cell_of_row _ _ 1 _ _ _ HX4.out
    have p2 : w4.cell? ⟨QB, 2, none⟩ = some (.int .i64 x2) := cell_of_row _ _ 2 _ _ _ HX4.out
    have p3 : w4.cell? ⟨QB, 3, none⟩ = some (.int .i64 x3) := cell_of_row _ _ 3 _ _ _ HX4.out
    have p4 : w4.cell? ⟨QB, 4, none⟩ = some (.slice pA pn pc) := cell_of_row _ _ 4 _ _ _ HX4.out
    have p5 : w4.cell? ⟨QB, 5, none⟩ = some (.slice eA en ec) := cell_of_row _ _ 5 _ _ _ HX4.out
    have r0 : w4.cell? ⟨QB + 1, 0, none⟩ = some (.string ym) := cell_of_row _ _ 0 _ _ _ HY4.out
    have r1 : w4.cell? ⟨QB + 1, 1, none⟩ = some (.int .i64 y1) := cell_of_row _ _ 1 _ _ _ HY4.out
    have r2 : w4.cell? ⟨QB + 1, 2, none⟩ = some (.int .i64 y2) := cell_of_row _ _ 2 _ _ _ HY4.out
    have r3 : w4.cell? ⟨QB + 1, 3, none⟩ = some (.int .i64 y3) := cell_of_row _ _ 3 _ _ _ HY4.out
    have r4 : w4.cell? ⟨QB + 1, 4, none⟩ = some (.slice qA qn qc) := cell_of_row _ _ 4 _ _ _ HY4.out
    have r5 : w4.cell? ⟨QB + 1, 5, none⟩ = some (.slice gA gn gc) := cell_of_row _ _ 5 _ _ _ HY4.out
    by_cases hnm2 : xm = ym
    case neg =>
      have hbn := beq_false hnm2
      have He := Lib.hid (Hn1.out hnm2)
      have Hbf := Lib.hid (bot HB0.out (HBo.out _ HB4.out))
      clear hnm2 Hall Hn1 Hv1 Hv2 Hc1 Hg1 Hc2 Hg2 hneq
      go_wp2_with fail
      go_ret
      exact ⟨ret_bool He.out.symm, Hbf.out⟩
    have hbn := beq_true hnm2
    by_cases hvr : x1 = y1 ∧ x2 = y2 ∧ x3 = y3
    case neg =>
      have He := Lib.hid (Hv1.out hvr)
      rw [decide_eq_false hvr] at hneq
      have Hbf := Lib.hid (bot HB0.out (HBo.out _ HB4.out))
      clear hnm2 hvr Hall Hn1 Hv1 Hv2 Hc1 Hg1 Hc2 Hg2
      go_wp2_with fail
      go_ret
      exact ⟨ret_bool He.out.symm, Hbf.out⟩
    rw [decide_eq_true hvr] at hneq
    have Hvv := Lib.hid (Hv2.out hvr)
    have Hnn := Lib.hid hnm2
    clear hnm2 hvr Hv2 Hv1 Hn1
    by_cases hcn : pn = qn
    case neg =>
      have He := Lib.hid (Hc1.out hcn)
      have hcb : ((pn : Int) != (qn : Int)) = true := by simp; omega
      have Hbf := Lib.hid (bot HB0.out (HBo.out _ HB4.out))
      clear hcn Hall Hc1 Hg1 Hc2 Hg2
      go_wp2_with fail
      go_ret
      exact ⟨ret_bool He.out.symm, Hbf.out⟩
    have hcb : ((pn : Int) != (qn : Int)) = false := by simp [hcn]
    by_cases hen2 : en = gn
    case neg =>
      have He := Lib.hid (Hg1.out hen2)
      have heb : ((en : Int) != (gn : Int)) = true := by simp; omega
      have Hbf := Lib.hid (bot HB0.out (HBo.out _ HB4.out))
      clear hcn hen2 Hall Hc1 Hg1 Hc2 Hg2
      go_wp2_with fail
      go_ret
      exact ⟨ret_bool He.out.symm, Hbf.out⟩
    have heb : ((en : Int) != (gn : Int)) = false := by simp [hen2]
    have Hcn := Lib.hid hcn; clear hcn
    have Hen2 := Lib.hid hen2; clear hen2
    clear Hc1 Hg1
    go_wp2_with fail
    clear p0 p1 p2 p3 p4 p5 r0 r1 r2 r3 r4 r5 hneq hbn hcb heb
    go_loopw [8] (fun i wi => ∃ q : Nat, q ≤ pn ∧ i = .int .i64 q ∧ Hid (cx.take q = cy.take q) ∧ Hid (wi.heap[QB]? = some (.cells #[.string xm, .int .i64 x1, .int .i64 x2, .int .i64 x3, .slice pA pn pc, .slice eA en ec] 63 (0, 0))) ∧ Hid (wi.heap[QB + 1]? = some (.cells #[.string ym, .int .i64 y1, .int .i64 y2, .int .i64 y3, .slice qA qn qc, .slice gA gn gc] 63 (0, 0))) ∧ Hid (Below wo.heap.size wo wi)) (fun i _ => pn - (intOf i).toNat)
    case atStart => exact ⟨0, Nat.zero_le _, rfl, by simp [Hid], HX4, HY4, HB4⟩
    case round =>
      clear HX4 HY4 HB4
      obtain ⟨q, hq, rfl, Htk, HX5, HY5, HB5⟩ := hrel
      have hqb : QB < wr.heap.size := (Array.getElem?_eq_some_iff.1 HX5.out).1
      have hqb1 : QB + 1 < wr.heap.size := (Array.getElem?_eq_some_iff.1 HY5.out).1
      have p4 : wr.cell? ⟨QB, 4, none⟩ = some (.slice pA pn pc) := cell_of_row _ _ 4 _ _ _ HX5.out
      have r4 : wr.cell? ⟨QB + 1, 4, none⟩ = some (.slice qA qn qc) := cell_of_row _ _ 4 _ _ _ HY5.out
      have hq0 : (0 : Int) ≤ (q : Int) := by omega
      by_cases hqt : q < pn
      case pos =>
        have hqx : q < cx.length := by have := Hpn.out; omega
        have hqy : q < cy.length := by have := Hqn.out; have := Hcn.out; omega
        have hqm : q < qn := by have := Hcn.out; omega
        obtain ⟨f, o, cs, rfl, _, hf1, ⟨rfl, _⟩, hcell⟩ := (HP.out wr HB5.out).elem (List.getElem?_eq_getElem hqx)
        obtain ⟨f', o', cs', rfl, _, hf2, ⟨rfl, _⟩, hcell'⟩ := (HP'.out wr HB5.out).elem (List.getElem?_eq_getElem hqy)
        have c0 := hcell 0 _ rfl
        have c1 := hcell 1 _ rfl
        have c2 := hcell 2 _ rfl
        have c3 := hcell 3 _ rfl
        have d0 := hcell' 0 _ rfl
        have d1 := hcell' 1 _ rfl
        have d2 := hcell' 2 _ rfl
        have d3 := hcell' 3 _ rfl
        simp only [rPin, Nat.add_zero] at c0 c1 c2 c3 d0 d1 d2 d3
        clear hcell hcell'
        have hop : ∀ W, (binOp .neq 107 (.agg #[.string cx[q].name, .int .i64 cx[q].ver.major, .int .i64 cx[q].ver.minor, .int .i64 cx[q].ver.patch]) (.agg #[.string cy[q].name, .int .i64 cy[q].ver.major, .int .i64 cy[q].ver.minor, .int .i64 cy[q].ver.patch])).run Tryz.prog W = .ok (.bool (!eqB cx[q] cy[q])) W := fun W => neq_pin W _ _ _ _ _ _ _ _
        have Hq1 : Hid (eqB cx[q] cy[q] = true → cx.take (q + 1) = cy.take (q + 1)) := fun h => take_next Htk.out hqx hqy (eqB_iff.1 h)
        have Hq2 : Hid (eqB cx[q] cy[q] = false → R = false) := fun h => Hc2.out (ne_at hqx hqy fun e => by rw [e, eqB_true rfl] at h; cases h)
        have hqn1 : (q : Int) < (pn : Int) := by omega
        have hqn2 : (q : Int) < (qn : Int) := by omega
        have Hbf : Hid (∀ W, Below wr.heap.size wr W → Below w.heap.size w W) := fun W hW => bot HB0.out (HBo.out _ (bot HB5.out hW))
        generalize eqB cx[q] cy[q] = v at *
        generalize cx[q].name = u1 at *
        generalize cx[q].ver.major = u2 at *
        generalize cx[q].ver.minor = u3 at *
        generalize cx[q].ver.patch = u4 at *
        generalize cy[q].name = v1 at *
        generalize cy[q].ver.major = v2 at *
        generalize cy[q].ver.minor = v3 at *
        generalize cy[q].ver.patch = v4 at *
        have r_p4 := cell_regrown p4
        have r_r4 := cell_regrown r4
        have r_c0 := cell_regrown c0
        have r_c1 := cell_regrown c1
        have r_c2 := cell_regrown c2
        have r_c3 := cell_regrown c3
        have r_d0 := cell_regrown d0
        have r_d1 := cell_regrown d1
        have r_d2 := cell_regrown d2
        have r_d3 := cell_regrown d3
        cases v
        · have He := Lib.hid (Hq2.out rfl)
          clear Hq1 Hq2
          go_wp2_with fail
          refine wp_region_qb (by kernel_rfl) (by kernel_rfl) ?_
          repeat (go_big_quiet_step (first | fail))
          refine wpQuiet_nil ?_
          intro w5 B5
          go_wp2_with fail
          go_ret
          exact ⟨ret_bool He.out.symm, Hbf.out _ B5⟩
        · have He := Lib.hid (Hq1.out rfl)
          clear Hq1 Hq2
          go_wp2_with fail
          refine wp_region_qb (by kernel_rfl) (by kernel_rfl) ?_
          repeat (go_big_quiet_step (first | fail))
          refine wpQuiet_nil ?_
          intro w5 B5
          have HX6 := Lib.hid ((B5.block _ hqb).trans HX5.out)
          have HY6 := Lib.hid ((B5.block _ hqb1).trans HY5.out)
          have HB6 := Lib.hid (bot HB5.out B5)
          go_wp2_with fail
          go_roundw
          case rel => exact ⟨q + 1, by omega, by go_num, He, HX6, HY6, HB6⟩
          case measure => simp [intOf]; omega
      case neg =>
      have Hcc : Hid (cx = cy) := eq_of_takes Htk.out (by have := Hpn.out; omega) (by have := Hqn.out; have := Hcn.out; omega)
      obtain ⟨wi, rfl⟩ : ∃ wi : World, wi = wr := ⟨_, rfl⟩
      go_wp2_with fail
      clear p4 r4 hqb hqb1
      go_loopw [9] (fun i wi => ∃ q : Nat, q ≤ en ∧ i = .int .i64 q ∧ Hid (ex.take q = ey.take q) ∧ Hid (wi.heap[QB]? = some (.cells #[.string xm, .int .i64 x1, .int .i64 x2, .int .i64 x3, .slice pA pn pc, .slice eA en ec] 63 (0, 0))) ∧ Hid (wi.heap[QB + 1]? = some (.cells #[.string ym, .int .i64 y1, .int .i64 y2, .int .i64 y3, .slice qA qn qc, .slice gA gn gc] 63 (0, 0))) ∧ Hid (Below wo.heap.size wo wi)) (fun i _ => en - (intOf i).toNat)
      case atStart => exact ⟨0, Nat.zero_le _, rfl, by simp [Hid], HX5, HY5, HB5⟩
      case round =>
        clear HX5 HY5 HB5 Htk hq hqt hq0
        obtain ⟨q, hq, rfl, Htk, HX5, HY5, HB5⟩ := hrel
        have hqb : QB < wr.heap.size := (Array.getElem?_eq_some_iff.1 HX5.out).1
        have hqb1 : QB + 1 < wr.heap.size := (Array.getElem?_eq_some_iff.1 HY5.out).1
        have p4 : wr.cell? ⟨QB, 5, none⟩ = some (.slice eA en ec) := cell_of_row _ _ 5 _ _ _ HX5.out
        have r4 : wr.cell? ⟨QB + 1, 5, none⟩ = some (.slice gA gn gc) := cell_of_row _ _ 5 _ _ _ HY5.out
        have hq0 : (0 : Int) ≤ (q : Int) := by omega
        by_cases hqt : q < en
        case pos =>
          have hqx : q < ex.length := by have := Hen.out; omega
          have hqy : q < ey.length := by have := Hgn.out; have := Hen2.out; omega
          have hqm : q < gn := by have := Hen2.out; omega
          obtain ⟨f, o, cs, rfl, _, hf1, ⟨rfl, _⟩, hcell⟩ := (HE.out wr HB5.out).elem (List.getElem?_eq_getElem hqx)
          obtain ⟨f', o', cs', rfl, _, hf2, ⟨rfl, _⟩, hcell'⟩ := (HE'.out wr HB5.out).elem (List.getElem?_eq_getElem hqy)
          have c0 := hcell 0 _ rfl
          have c1 := hcell 1 _ rfl
          have d0 := hcell' 0 _ rfl
          have d1 := hcell' 1 _ rfl
          simp only [rEdge, Nat.add_zero] at c0 c1 d0 d1
          clear hcell hcell'
          have hop : ∀ W, (binOp .neq 65 (.agg #[.string ex[q].label, .int .i64 ex[q].to]) (.agg #[.string ey[q].label, .int .i64 ey[q].to])).run Tryz.prog W = .ok (.bool (!eqB ex[q] ey[q])) W := fun W => neq_edge W _ _ _ _
          have Hq1 : Hid (eqB ex[q] ey[q] = true → ex.take (q + 1) = ey.take (q + 1)) := fun h => take_next Htk.out hqx hqy (eqB_iff.1 h)
          have Hq2 : Hid (eqB ex[q] ey[q] = false → R = false) := fun h => Hg2.out (ne_at hqx hqy fun e => by rw [e, eqB_true rfl] at h; cases h)
          have hqn1 : (q : Int) < (en : Int) := by omega
          have hqn2 : (q : Int) < (gn : Int) := by omega
          have Hbf : Hid (∀ W, Below wr.heap.size wr W → Below w.heap.size w W) := fun W hW => bot HB0.out (HBo.out _ (bot HB5.out hW))
          generalize eqB ex[q] ey[q] = v at *
          generalize ex[q].label = u1 at *
          generalize ex[q].to = u2 at *
          generalize ey[q].label = v1 at *
          generalize ey[q].to = v2 at *
          have r_p4 := cell_regrown p4
          have r_r4 := cell_regrown r4
          have r_c0 := cell_regrown c0
          have r_c1 := cell_regrown c1
          have r_d0 := cell_regrown d0
          have r_d1 := cell_regrown d1
          cases v
          · have He := Lib.hid (Hq2.out rfl)
            clear Hq1 Hq2
            go_wp2_with fail
            refine wp_region_qb (by kernel_rfl) (by kernel_rfl) ?_
            repeat (go_big_quiet_step (first | fail))
            refine wpQuiet_nil ?_
            intro w5 B5
            go_wp2_with fail
            go_ret
            exact ⟨ret_bool He.out.symm, Hbf.out _ B5⟩
          · have He := Lib.hid (Hq1.out rfl)
            clear Hq1 Hq2
            go_wp2_with fail
            refine wp_region_qb (by kernel_rfl) (by kernel_rfl) ?_
            repeat (go_big_quiet_step (first | fail))
            refine wpQuiet_nil ?_
            intro w5 B5
            have HX6 := Lib.hid ((B5.block _ hqb).trans HX5.out)
            have HY6 := Lib.hid ((B5.block _ hqb1).trans HY5.out)
            have HB6 := Lib.hid (bot HB5.out B5)
            go_wp2_with fail
            go_roundw
            case rel => exact ⟨q + 1, by omega, by go_num, He, HX6, HY6, HB6⟩
            case measure => simp [intOf]; omega
        case neg =>
        have Hee : Hid (ex = ey) := eq_of_takes Htk.out (by have := Hen.out; omega) (by have := Hgn.out; have := Hen2.out; omega)
        have He := Lib.hid (Hall.out Hnn.out Hvv.out Hcc.out Hee.out)
        have HBf := Lib.hid (HBo.out _ HB5.out)
        go_wp2_with fail
        go_roundw
        case rel => exact ⟨k + 1, by omega, by go_num, He, HBf⟩
        case measure => simp [intOf]; omega
end Go.Proofs.YthbnmehbhpakaaaGreatDoor
