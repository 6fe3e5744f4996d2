/-
  The law WalkupNear, walked.
-/
import Derived.Test.YtanipbpphbkmcaaGreatDoorSelfLaw
set_option autoImplicit false
set_option relaxedAutoImplicit false
set_option linter.unusedVariables false
set_option linter.unusedSimpArgs false
namespace Go.Proofs.YtanipbpphbkmcaaGreatDoor
open Go.Rows Go.RowKit Go.Shelf Go.Sort

set_option maxHeartbeats 3200000 in
set_option maxRecDepth 100000 in
theorem walkupNear_any (A : Option Addr) (n c : Nat) (xs : List Dir) (x : Int) (s : ByteArray) (w : World) (ht : Tab w) (hx : SlV rDir w (fun b => b < w.heap.size) xs (.slice A n c)) (hlen : ∀ d ∈ xs, d.path.length * 32 ≤ 140737488355328) (hI : I64 x) (hs : s.size ≤ 1048576) :
    Calls Tryz.prog 5 #[.agg #[.slice A n c], .int .i64 x, .string s] w fun e w' => e = .returned (.bool true) ∧ Below w.heap.size w w' := by
  have hnx := hx.n_eq
  have hcx := hx.cap_le
  unfold maxLen at hcx
  have hn63 : n ≤ 9223372036854775807 := by omega
  have hsm : s.size ≤ maxLen := by unfold maxLen; omega
  have HX := Lib.hid hx
  have Hck : Hid (∀ W, Below w.heap.size w W → Calls Tryz.prog 11 #[.agg #[.slice A n c]] W fun e w' => e = .returned (.int .i64 (checkE xs)) ∧ Below W.heap.size W w') := fun W hW => refCheck_any A n c xs W _ hlen (hx.belowSize hW)
  have Hlk : Hid (∀ (i : Int) W, Below w.heap.size w W → Calls Tryz.prog 16 #[.agg #[.slice A n c], .int .i64 i, .string s] W fun e w' => e = .returned (.int .i64 (lookI xs i s)) ∧ Below W.heap.size W w') := fun i W hW => look_any A n c xs s W _ i hsm hlen (hx.belowSize hW)
  have Hlv : Hid (∀ W, Below w.heap.size w W → Calls Tryz.prog 15 #[] W fun e w' => e = .returned (.bool true) ∧ Below W.heap.size W w') := fun W hW => lives13_any W (tab_below ht hW)
  have Hnx := Lib.hid hnx
  have Hnf : Hid (∀ (i a : Nat), ∀ (hi : i < xs.length) (s : ByteArray), lookI xs (i : Int) s = (a : Int) → ∃ h : a < xs.length, standsAt xs[a].path xs[i].path s) := fun i a hi s h => near_found hi h
  have Hnb : Hid (checkE xs = 0 → ∀ (i j : Nat), ∀ (hi : i < xs.length) (hj : j < xs.length) (s : ByteArray), standsAt xs[j].path xs[i].path s → ∃ a : Nat, lookI xs (i : Int) s = (a : Int) ∧ ∃ ha : a < xs.length, xs[j].path.length ≤ xs[a].path.length) := fun h i j hi hj s hs => near_best h hi hj hs
  clear hx hlen ht hnx hcx hI hs hsm
  generalize checkE xs = E at *
  go_enter Tryz.func5, Tryz.ntmps5
  go_wp2_with fail
  obtain ⟨w0, hw0⟩ : ∃ w0, w0 = w.alloc (.cells #[.slice A n c] 24) := ⟨_, rfl⟩
  have hz : w.heap.size < w0.heap.size := by rw [hw0]; simp [go_sem]
  have HB0 : Hid (Below w.heap.size w w0) := by unfold Hid; rw [hw0]; exact bal (Below.refl _ _) _
  have a0 : w0.cell? ⟨w.heap.size, 0, none⟩ = some (.slice A n c) := by rw [hw0]; simp [go_sem]
  rw [← hw0]
  clear hw0
  have HA0 := Lib.hid a0
  refine (Hck.out w0 HB0.out).mono ?_
  rintro e w1 ⟨rfl, B1⟩
  have Q1 := Lib.hid B1; clear B1 Hck a0
  have b0 := below_cell Q1.out HA0.out hz
  by_cases hE : E = 0
  case neg =>
    have hEb : (E != 0) = true := by simp [hE]
    clear hE
    go_wp2_with fail
    refine (Hlv.out w1 (bot HB0.out Q1.out)).mono ?_
    rintro e w2 ⟨rfl, B2⟩
    go_wp2_with fail
    go_ret
    exact ⟨rfl, bot HB0.out (bot Q1.out B2)⟩
  have hEb : (E != 0) = false := by simp [hE]
  have Hnb1 := Lib.hid (Hnb.out hE)
  clear hE Hnb
  by_cases hx0 : x < 0
  · have hxd : decide (x < 0) = true := decide_eq_true hx0
    go_wp2_with fail
    refine (Hlv.out w1 (bot HB0.out Q1.out)).mono ?_
    rintro e w2 ⟨rfl, B2⟩
    go_wp2_with fail
    go_ret
    exact ⟨rfl, bot HB0.out (bot Q1.out B2)⟩
  have hxd : decide (x < 0) = false := decide_eq_false hx0
  by_cases hxn : (n : Int) ≤ x
  · have hxe : decide ((n : Int) ≤ x) = true := decide_eq_true hxn
    go_wp2_with fail
    refine (Hlv.out w1 (bot HB0.out Q1.out)).mono ?_
    rintro e w2 ⟨rfl, B2⟩
    go_wp2_with fail
    go_ret
    exact ⟨rfl, bot HB0.out (bot Q1.out B2)⟩
  have hxe : decide ((n : Int) ≤ x) = false := decide_eq_false hxn
  obtain ⟨k, rfl⟩ : ∃ k : Nat, x = (k : Int) := ⟨x.toNat, by omega⟩
  have hkx : k < xs.length := by have := Hnx.out; omega
  have hkI : (k : Int) < (n : Int) := by omega
  have hk0 : (0 : Int) ≤ (k : Int) := by omega
  have Hnb2 := Lib.hid (fun j hj h => Hnb1.out k j hkx hj s h)
  have Hnf2 := Lib.hid (fun a h => Hnf.out k a hkx s h)
  obtain ⟨b, o, cs, rfl, _, hb1, hh, hcell⟩ := HX.out.elem (List.getElem?_eq_getElem hkx)
  obtain ⟨s0, s1, s2, s3, rfl, hp, _, _, _, _, _, _, _, _⟩ := hh
  obtain ⟨pA, pc, rfl, hpl, hpm⟩ := hp.val
  unfold maxLen at hpm
  have c0w := Lib.hid (hcell 0 _ rfl)
  have HP := Lib.hid hp
  clear hcell hp hx0 hxn Hnb1 Hnf
  have hrg := lookI_range xs (k : Int) s
  go_wp2_with fail
  refine (Hlk.out (k : Int) w1 (bot HB0.out Q1.out)).mono ?_
  rintro e w2 ⟨rfl, B2⟩
  have Q2 := Lib.hid (bot Q1.out B2)
  clear B2 b0
  have b0 := below_cell Q2.out HA0.out hz
  have c0 := below_cell (bot HB0.out Q2.out) c0w.out hb1
  simp only [rDir, Nat.add_zero] at c0
  generalize lookI xs (k : Int) s = L at *
  generalize xs[k].path = path at *
  generalize hl0 : path.length = l0 at *
  have Hl0 := Lib.hid hl0; clear hl0
  have Hpt : Hid (∀ p gA gc r W, Below w.heap.size w W → SlV rStr w (fun b => b < w.heap.size) p (.slice gA p.length gc) → r ≤ p.length → r ≤ l0 → Calls Tryz.prog 17 #[.slice gA r gc, .slice pA r pc] W fun e w' => e = .returned (.bool (eqB (p.take r) (path.take r))) ∧ Below W.heap.size W w') := fun p gA gc r W hW hv hr1 hr2 => by
    exact refPath_any _ _ _ _ _ _ (p.take r) (path.take r) W _ _ ((SlV.take hv hr1).belowSize hW) ((SlV.take HP.out (by rw [Hl0.out]; exact hr2)).belowSize hW)
  refine dite (L < 0) (fun hL => ?_) (fun hL => ?_)
  focus
    have hLd : decide (0 ≤ L) = false := decide_eq_false (by omega)
    have hLn : ¬ 0 ≤ L := by omega
    have HLL := Lib.hid hrg
    clear hrg hL
    go_wp2_with fail
    obtain ⟨w5, rfl⟩ : ∃ w5, w5 = w2 := ⟨_, rfl⟩
    have Q5 := Q2
    clear hLn hLd
  rotate_left
  focus
    have hLd : decide (0 ≤ L) = true := decide_eq_true (by omega)
    have hLp : 0 ≤ L := by omega
    have HLL := Lib.hid hrg
    clear hrg
    obtain ⟨a, ha⟩ : ∃ a : Nat, L = (a : Int) := ⟨L.toNat, by omega⟩
    obtain ⟨hax, hst⟩ := Hnf2.out a ha
    obtain ⟨b', o', cs', hAe, _, hb1', hh', hcell'⟩ := HX.out.elem (List.getElem?_eq_getElem hax)
    obtain ⟨s0', s1', s2', s3', rfl, hp', _, _, _, _, _, _, _, _⟩ := hh'
    obtain ⟨gA, gc, rfl, hgl, hgm⟩ := hp'.val
    unfold maxLen at hgm
    simp only [Option.some.injEq, Addr.mk.injEq] at hAe
    obtain ⟨rfl, rfl, _⟩ := hAe
    have c1 := below_cell (bot HB0.out Q2.out) (hcell' 0 _ rfl) hb1'
    simp only [rDir, Nat.add_zero] at c1
    have haI : (a : Int) < (n : Int) := by have := Hnx.out; omega
    have ha0 : (0 : Int) ≤ (a : Int) := by omega
    have HP' := Lib.hid hp'
    clear hcell' hp'
    generalize xs[a].path = pt at *
    obtain ⟨h1, h2, h3, h4⟩ := hst
    obtain ⟨r, hr⟩ : ∃ r, pt.length = r + 1 := ⟨pt.length - 1, by have := List.length_pos_iff.2 h1; omega⟩
    have hrl : r ≤ l0 := by have := Hl0.out; omega
    obtain ⟨g, u, rfl, hg, hlc, _⟩ := last_cell HP'.out hr
    rw [h3] at hlc
    have c2 := below_cell (bot HB0.out Q2.out) hlc hg
    have Hst : Hid (eqB (pt.take r) (path.take r) = true) := eqB_true (by rw [hr, Nat.add_sub_cancel] at h4; exact h4)
    have H1 := Lib.hid (qcall (w := w2) (fun W hW => Hpt.out pt (some ⟨g, u, none⟩) gc r W (bot (bot HB0.out Q2.out) hW) HP'.out (by omega) hrl))
    rw [Hst.out] at H1
    rw [hr] at c1 hgl
    have hbs := beq_true (rfl : s = s)
    have hq1 : (((r + 1 : Nat) : Int) == 0) = false := by simp; omega
    have hq2 : (((r : Int) + 1) == 0) = false := by simp; omega
    have hrI : ¬ (l0 : Int) < (r : Int) := by omega
    have hrd : decide ((l0 : Int) < (r : Int)) = false := decide_eq_false hrI
    have hrdn : decide (l0 < r) = false := decide_eq_false (by omega)
    have hr0 : (0 : Int) ≤ (r : Int) := by omega
    have hrg1 : r ≤ gc := by omega
    have hrg2 : r ≤ pc := by omega
    clear h1 h2 h3 h4 hlc hL
    have Hha := Lib.hid ha
    have Hhr := Lib.hid hr
    rw [ha]
    rw [ha] at hLd hLp
    clear ha hr
    have r_b0 := cell_regrown b0
    have r_c0 := cell_regrown c0
    have r_c1 := cell_regrown c1
    have r_c2 := cell_regrown c2
    go_wp2_with fail
    refine wp_region_qb (by kernel_rfl) (by kernel_rfl) ?_
    repeat (go_big_quiet_step (first | (with_reducible exact H1.out _ _)))
    refine wpQuiet_nil ?_
    intro w5 B5
    have Q5 : Hid (Below w0.heap.size w0 w5) := bot Q2.out B5
    clear c1 c2 r_b0 r_c0 r_c1 r_c2 B5 H1
    go_wp2_with fail
    rw [← Hha.out]
  all_goals
    clear b0 c0
    go_loopw [11] (fun i wr => ∃ j : Nat, j ≤ n ∧ i = .int .i64 j ∧ Below w0.heap.size w0 wr) (fun i _ => n - (intOf i).toNat)
    case atStart => exact ⟨0, Nat.zero_le _, rfl, Q5.out⟩
    case round =>
      obtain ⟨j, hj, rfl, hbel⟩ := hrel
      have b0 := below_cell hbel HA0.out hz
      have hbw := bot HB0.out hbel
      by_cases hlt : j < n
      case neg =>
        have hlt' : ¬ (j : Int) < (n : Int) := by omega
        go_wp2_with fail
        refine (Hlv.out wr hbw).mono ?_
        rintro e w2 ⟨rfl, B2⟩
        go_wp2_with fail
        go_ret
        exact ⟨rfl, bot hbw B2⟩
      have hjx : j < xs.length := by have := Hnx.out; omega
      have hjI : (j : Int) < (n : Int) := by omega
      have hj0 : (0 : Int) ≤ (j : Int) := by omega
      obtain ⟨b2, o2, cs2, hAe2, _, hb2, hh2, hcell2⟩ := HX.out.elem (List.getElem?_eq_getElem hjx)
      obtain ⟨z0, z1, z2, z3, rfl, hp2, _, _, _, _, _, _, _, _⟩ := hh2
      obtain ⟨fA, fc, rfl, hfl, hfm⟩ := hp2.val
      unfold maxLen at hfm
      simp only [Option.some.injEq, Addr.mk.injEq] at hAe2
      obtain ⟨rfl, rfl, _⟩ := hAe2
      have c1 := below_cell hbw (hcell2 0 _ rfl) hb2
      simp only [rDir, Nat.add_zero] at c1
      have HP2 := Lib.hid hp2
      have Hnbj := Lib.hid (Hnb2.out j hjx)
      clear hcell2 hp2
      generalize xs[j].path = qt at *
      by_cases hjL : (j : Int) = L
      · have hjb : ((j : Int) == L) = true := by simp [hjL]
        clear hjL
        go_wp2_with fail
        go_roundw
        case rel => exact ⟨j + 1, by omega, by go_num, hbel⟩
        case measure => simp [intOf]; omega
      have hjb : ((j : Int) == L) = false := by simp [hjL]
      clear hjL
      by_cases h0 : qt.length = 0
      · have h0b : ((qt.length : Int) == 0) = true := by simp [h0]
        clear h0
        generalize qt.length = l2 at *
        go_wp2_with fail
        go_roundw
        case rel => exact ⟨j + 1, by omega, by go_num, hbel⟩
        case measure => simp [intOf]; omega
      obtain ⟨r2, hr2⟩ : ∃ r2, qt.length = r2 + 1 := ⟨qt.length - 1, by omega⟩
      obtain ⟨f, v, rfl, hf, hlf, _⟩ := last_cell HP2.out hr2
      have c2 := below_cell hbw hlf hf
      have Hr2 := Lib.hid hr2
      rw [hr2] at c1 hfl
      clear h0 hr2 hlf
      have hq1 : (((r2 + 1 : Nat) : Int) == 0) = false := by simp; omega
      have hq2 : (((r2 : Int) + 1) == 0) = false := by simp; omega
      have hr20 : (0 : Int) ≤ (r2 : Int) := by omega
      by_cases hrl2 : l0 < r2
      · have hrI2 : (l0 : Int) < (r2 : Int) := by omega
        have hrd2 : decide ((l0 : Int) < (r2 : Int)) = true := decide_eq_true hrI2
        clear hrl2
        go_wp2_with fail
        go_roundw
        case rel => exact ⟨j + 1, by omega, by go_num, hbel⟩
        case measure => simp [intOf]; omega
      have hrI2 : ¬ (l0 : Int) < (r2 : Int) := by omega
      have hrd2 : decide ((l0 : Int) < (r2 : Int)) = false := decide_eq_false hrI2
      by_cases hls2 : lastN qt = s
      case neg =>
        have hlb2 := beq_false hls2
        clear hls2
        generalize lastN qt = lq at *
        go_wp2_with fail
        go_roundw
        case rel => exact ⟨j + 1, by omega, by go_num, hbel⟩
        case measure => simp [intOf]; omega
      have hlb2 := beq_true hls2
      have Hls2 := Lib.hid hls2
      rw [hls2] at c2 hlb2
      have hg1 : r2 ≤ fc := by omega
      have hg2 : r2 ≤ pc := by omega
      have H1 := Lib.hid (qcall (w := wr) (fun W hW => Hpt.out qt (some ⟨f, v, none⟩) fc r2 W (bot hbw hW) HP2.out (by have := Hr2.out; omega) (by omega)))
      have Hst2 : Hid (eqB (qt.take r2) (path.take r2) = true → standsAt qt path s) := fun h => ⟨fun e => by have := Hr2.out; rw [e] at this; simp at this, by have := Hr2.out; have := Hl0.out; omega, Hls2.out, by rw [Hr2.out, Nat.add_sub_cancel]; exact eqB_of h⟩
      clear hls2
      go_wp2_with fail
      cases hev : eqB (qt.take r2) (path.take r2)
      · rw [hev] at H1
        clear hev Hst2
        have r_b0 := cell_regrown b0
        have r_c1 := cell_regrown c1
        have r_c2 := cell_regrown c2
        go_wp2_with fail
        refine wp_region_qb (by kernel_rfl) (by kernel_rfl) ?_
        repeat (go_big_quiet_step (first | (with_reducible exact H1.out _ _)))
        refine wpQuiet_nil ?_
        intro w6 B6
        have Q6 := Lib.hid (bot hbel B6)
        clear b0 c1 c2 r_b0 r_c1 r_c2 H1 B6 hbel hbw hq1 hq2 hlb2 hrd2 hrI2 hrl2 hjb hg1 hg2 hr20
        go_wp2_with fail
        go_roundw
        case rel => exact ⟨j + 1, by omega, by go_num, Q6.out⟩
        case measure => simp [intOf]; omega
      · rw [hev] at H1
        obtain ⟨aa, haa, hax2, hle⟩ := Hnbj.out (Hst2.out hev)
        obtain ⟨b3, o3, cs3, hAe3, _, hb3, hh3, hcell3⟩ := HX.out.elem (List.getElem?_eq_getElem hax2)
        obtain ⟨y0, y1, y2, y3, rfl, hp3, _, _, _, _, _, _, _, _⟩ := hh3
        obtain ⟨eA, ec, rfl, hel, hem⟩ := hp3.val
        simp only [Option.some.injEq, Addr.mk.injEq] at hAe3
        obtain ⟨rfl, rfl, _⟩ := hAe3
        have c3w := Lib.hid (hcell3 0 _ rfl)
        have haaI : (aa : Int) < (n : Int) := by have := Hnx.out; omega
        have haa0 : (0 : Int) ≤ (aa : Int) := by omega
        have haad : decide ((aa : Int) < 0) = false := decide_eq_false (by omega)
        rw [Hr2.out] at hle
        clear hcell3 hp3 hev Hst2
        generalize xs[aa].path.length = la at *
        have hlad : decide ((la : Int) < (r2 : Int) + 1) = false := decide_eq_false (by omega)
        have hlan : ¬ (la : Int) < (r2 : Int) + 1 := by omega
        have Haa := Lib.hid haa
        rw [haa] at hjb
        rw [haa]
        clear haa
        have r_b0 := cell_regrown b0
        have r_c1 := cell_regrown c1
        have r_c2 := cell_regrown c2
        go_wp2_with fail
        refine wp_region_qb (by kernel_rfl) (by kernel_rfl) ?_
        repeat (go_big_quiet_step (first | (with_reducible exact H1.out _ _)))
        refine wpQuiet_nil ?_
        intro w6 B6
        have b6 := below_cell (bot hbel B6) HA0.out hz
        have c6 := below_cell (bot hbw B6) c3w.out hb3
        simp only [rDir, Nat.add_zero] at c6
        have Q6 := Lib.hid (bot hbel B6)
        clear b0 c1 c2 r_b0 r_c1 r_c2 H1 B6 hbel hbw hq1 hq2 hlb2 hrd2 hrI2 hrl2 hjb hg1 hg2
        go_wp2_with fail
        rw [← Haa.out]
        go_roundw
        case rel => exact ⟨j + 1, by omega, by go_num, Q6.out⟩
        case measure => simp [intOf]; omega
end Go.Proofs.YtanipbpphbkmcaaGreatDoor
