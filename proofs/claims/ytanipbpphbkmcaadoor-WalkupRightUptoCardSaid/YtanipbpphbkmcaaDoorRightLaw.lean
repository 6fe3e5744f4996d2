/-
  The law WalkupRight, walked.
-/
import Derived.Test.YtanipbpphbkmcaaDoorLives13
import Derived.Test.YtanipbpphbkmcaaDoorRight
set_option autoImplicit false
set_option relaxedAutoImplicit false
set_option linter.unusedVariables false
set_option linter.unusedSimpArgs false
namespace Go.Proofs.YtanipbpphbkmcaaDoor
open Go.Rows Go.RowKit Go.Shelf Go.Sort

theorem mapR_cases (xs : List Dir) (gs : List Node) : (∃ z, mapR xs gs = (none, z) ∧ (z != 0) = true) ∨ ∃ m, mapR xs gs = (some m, 0) := by
  unfold mapR
  split
  · exact .inl ⟨_, rfl, by decide⟩
  · split
    · exact .inl ⟨_, rfl, by decide⟩
    · split
      · exact .inl ⟨_, rfl, by decide⟩
      · exact .inr ⟨_, rfl⟩
/-- an element of a row of ints: where it lies -/
theorem int_cell {w : World} {S : Nat → Prop} {l : List Int} {A : Option Addr} {n c : Nat} (h : SlV rInt w S l (.slice A n c)) (h0 : 0 < l.length) :
    ∃ b o, A = some ⟨b, o, none⟩ ∧ b < w.heap.size ∧ ∀ (j : Nat) (x : Int), l[j]? = some x → w.cell? ⟨b, o + j, none⟩ = some (.int .i64 x) := by
  obtain ⟨b, o, cs, rfl, _, hb, _, _⟩ := h.elem (List.getElem?_eq_getElem h0)
  refine ⟨b, o, rfl, hb, fun j x hx => ?_⟩
  obtain ⟨b', o', cs', e, _, _, ⟨rfl, _⟩, hc⟩ := h.elem hx
  simp only [Option.some.injEq, Addr.mk.injEq] at e
  obtain ⟨rfl, rfl, _⟩ := e
  have := hc 0 _ rfl
  simpa [rInt] using this

set_option maxHeartbeats 3200000 in
set_option maxRecDepth 100000 in
theorem walkupRight_any (A : Option Addr) (n c : Nat) (xs : List Dir) (B : Option Addr) (m d : Nat) (gs : List Node) (w : World) (ht : Tab w) (hx : SlV rDir w (fun b => b < w.heap.size) xs (.slice A n c)) (hlen : ∀ d ∈ xs, d.path.length * 32 ≤ 140737488355328)
    (hg : SlV rNode w (fun b => b < w.heap.size) gs (.slice B m d)) :
    Calls Tryd.prog 5 #[.agg #[.slice A n c], .agg #[.slice B m d]] w fun e w' => e = .returned (.bool true) ∧ Below w.heap.size w w' := by
  have hnx := hx.n_eq
  have hmg := hg.n_eq
  have hcx := hx.cap_le
  have hcg := hg.cap_le
  unfold maxLen at hcx hcg
  have hn63 : n ≤ 9223372036854775807 := by omega
  have hm63 : m ≤ 9223372036854775807 := by omega
  have HX := Lib.hid hx
  have HG := Lib.hid hg
  have Hmp : Hid (∀ W, Below w.heap.size w W → Calls Tryd.prog 13 #[.agg #[.slice A n c], .agg #[.slice B m d]] W fun e w' => (∃ v, e = .returned (.tuple #[v, .int .i64 (mapR xs gs).2]) ∧ SlV rInt w' (fun b => W.heap.size ≤ b) ((mapR xs gs).1.getD []) v) ∧ Below W.heap.size W w') := fun W hW => map_any A B n c m d xs gs W _ _ (tab_below ht hW) hlen (hx.belowSize hW) (hg.belowSize hW)
  have Hlk : Hid (∀ W (i : Int) (s : ByteArray), s.size ≤ maxLen → Below w.heap.size w W → Calls Tryd.prog 10 #[.agg #[.slice A n c], .int .i64 i, .string s] W fun e w' => e = .returned (.int .i64 (lookI xs i s)) ∧ Below W.heap.size W w') := fun W i s hs hW => look_any A n c xs s W _ i hs hlen (hx.belowSize hW)
  have Hlv : Hid (∀ W, Below w.heap.size w W → Calls Tryd.prog 12 #[] W fun e w' => e = .returned (.bool true) ∧ Below W.heap.size W w') := fun W hW => lives13_any W (tab_below ht hW)
  have Hnx := Lib.hid hnx
  have Hmg := Lib.hid hmg
  clear hx hlen ht hnx hcx hmg hcg hg
  go_enter Tryd.func5, Tryd.ntmps5
  go_wp2_with fail
  obtain ⟨w0, hw0⟩ : ∃ w0, w0 = (w.alloc (.cells #[.slice A n c] 24)).alloc (.cells #[.slice B m d] 31) := ⟨_, rfl⟩
  have hz : w.heap.size < w0.heap.size := by rw [hw0]; simp [go_sem]
  have hz1 : w.heap.size + 1 < w0.heap.size := by rw [hw0]; simp [go_sem]
  have HB0 : Hid (Below w.heap.size w w0) := by unfold Hid; rw [hw0]; exact bal (bal (Below.refl _ _) _) _
  have a0 : w0.cell? ⟨w.heap.size, 0, none⟩ = some (.slice A n c) := by rw [hw0]; simp [go_sem]
  have a1 : w0.cell? ⟨w.heap.size + 1, 0, none⟩ = some (.slice B m d) := by rw [hw0]; simp [go_sem]
  rw [← hw0]
  clear hw0
  have HA0 : Hid (w0.cell? ⟨w.heap.size, 0, none⟩ = some (.slice A n c) ∧ w0.cell? ⟨w.heap.size + 1, 0, none⟩ = some (.slice B m d)) := ⟨a0, a1⟩
  refine (Hmp.out w0 HB0.out).mono ?_
  rintro e w1 ⟨⟨v, rfl, hv⟩, B1⟩
  have Q1 := Lib.hid B1; clear B1 Hmp a0 a1
  have hrt := @mapR_right xs gs
  rcases mapR_cases xs gs with ⟨z, hz0, hzb⟩ | ⟨mm, hz0⟩
  · rw [hz0] at hv ⊢
    obtain ⟨vA, vc, rfl, _, _⟩ := hv.val
    clear hv hz0 hrt
    have hzz : (((([] : List Int).length : Nat) : Int) == 0) = true := rfl
    go_wp2_with fail
    refine (Hlv.out w1 (bot HB0.out Q1.out)).mono ?_
    rintro e w2 ⟨rfl, B2⟩
    go_wp2_with fail
    go_ret
    exact ⟨rfl, bot HB0.out (bot Q1.out B2)⟩
  obtain ⟨hml, hm0, hmr, hmo⟩ := hrt hz0
  rw [hz0] at hv ⊢
  have hv : SlV rInt w1 (fun b => w0.heap.size ≤ b) mm v := hv
  obtain ⟨vA, vc, rfl, hvl, hvm⟩ := hv.val
  unfold maxLen at hvm
  have hmm0 : 0 < mm.length := (List.getElem?_eq_some_iff.1 hm0).1
  obtain ⟨mb, mo, rfl, hmb, hmc⟩ := int_cell hv hmm0
  have Hmc := Lib.hid hmc
  have Hmr := Lib.hid hmr
  have Hmo := Lib.hid hmo
  have e0 := hmc 0 0 hm0
  rw [Nat.add_zero] at e0
  have hmn : mm.length = n := by have := Hnx.out; omega
  rw [hmn] at hmm0 hvl ⊢
  have Hmn := Lib.hid hmn
  have b0 := below_cell Q1.out HA0.out.1 hz
  clear hv hml hm0 hmr hmo hmc hz0 hrt hmn
  have hnn : ((n : Int) != (n : Int)) = false := by simp
  have hnI : (0 : Int) < (n : Int) := by omega
  go_wp2_with fail
  clear b0 e0
  go_loopw [7] (fun i wr => ∃ k : Nat, k ≤ n ∧ i = .int .i64 k ∧ Below w1.heap.size w1 wr) (fun i _ => n - (intOf i).toNat)
  case atStart => exact ⟨0, Nat.zero_le _, rfl, Below.refl _ _⟩
  case round =>
    obtain ⟨k, hk, rfl, hb1⟩ := hrel
    have hbel := bot Q1.out hb1
    have hbw := bot HB0.out hbel
    have b0 := below_cell hbel HA0.out.1 hz
    have b1 := below_cell hbel HA0.out.2 hz1
    by_cases hlt : k < n
    case neg =>
      have hlt' : ¬ (k : Int) < (n : Int) := by omega
      go_wp2_with fail
      refine (Hlv.out wr hbw).mono ?_
      rintro e w2 ⟨rfl, B2⟩
      go_wp2_with fail
      go_ret
      exact ⟨rfl, bot hbw B2⟩
    have hkm : k < mm.length := by have := Hmn.out; omega
    have Hk : Hid (mm[k]? = some mm[k]) := List.getElem?_eq_getElem hkm
    have hrg := Hmr.out _ (List.getElem_mem hkm)
    have ck := below_cell hb1 (Hmc.out k _ Hk.out) hmb
    have Hok := Lib.hid (Hmo.out k _ Hk.out)
    clear Hk
    generalize mm[k] = xv at *
    have hkI : (k : Int) < (n : Int) := by omega
    have hk0 : (0 : Int) ≤ (k : Int) := by omega
    have hg1 : decide ((m : Int) ≤ xv) = false := decide_eq_false (by have := Hmg.out; omega)
    have hg2 : decide (xv < -1) = false := decide_eq_false (by omega)
    have r_b0 := cell_regrown b0
    have r_b1 := cell_regrown b1
    have r_ck := cell_regrown ck
    go_wp2_with fail
    refine wp_region_qb (by kernel_rfl) (by kernel_rfl) ?_
    repeat (go_big_quiet_step (first | fail))
    refine wpQuiet_nil ?_
    intro w2 B2
    have hb2 := bot hb1 B2
    have ck2 := below_cell B2 ck (Nat.lt_of_lt_of_le hmb hb1.size)
    have b1' := below_cell B2 b1 (Nat.lt_of_lt_of_le hz1 hbel.size)
    clear b0 b1 ck r_b0 r_b1 r_ck hg1 hg2
    by_cases hx0 : xv < 0
    · have hx0b : decide (xv < 0) = true := decide_eq_true hx0
      clear hrg hx0
      go_wp2_with fail
      go_roundw
      case rel => exact ⟨k + 1, by omega, by go_num, hb2⟩
      case measure => simp [intOf]; omega
    have hx0b : decide (xv < 0) = false := decide_eq_false hx0
    obtain ⟨q, rfl⟩ : ∃ q : Nat, xv = (q : Int) := ⟨xv.toNat, by omega⟩
    have hqg : q < gs.length := by omega
    have hqm : (q : Int) < (m : Int) := by have := Hmg.out; omega
    have hq0 : (0 : Int) ≤ (q : Int) := by omega
    obtain ⟨b', oo, cs, hBe, hSb, hbb, hh, hcell⟩ := HG.out.elem (List.getElem?_eq_getElem hqg)
    obtain ⟨s0, s1, rfl, _, _, _, _, hp1, hp2⟩ := hh
    obtain ⟨qA, qa, rfl, hq1, hq2⟩ := hp2.val
    unfold maxLen at hq2
    subst hBe
    have c5 := below_cell (bot HB0.out (bot Q1.out hb2)) (hcell 5 _ rfl) hbb
    simp only [rNode, Nat.add_zero] at c5
    have HES := Lib.hid hp2
    have Hall : Hid (∀ e ∈ gs[q].edges, edgeOk xs gs mm k e ∧ 0 ≤ e.to) := fun e he => Hok.out (by omega) e (by unfold edgesOf; simp only [Int.toNat_natCast, List.getElem?_eq_getElem hqg]; exact he)
    clear hcell hp1 hp2 Hok hrg
    generalize gs[q].edges = es at *
    generalize hl1 : es.length = l1 at *
    have Hl1 := Lib.hid hl1; clear hl1
    have r_b1' := cell_regrown b1'
    have r_ck2 := cell_regrown ck2
    have r_c5 := cell_regrown c5
    go_wp2_with fail
    go_wp2_with fail
    refine wp_region_qb (by kernel_rfl) (by kernel_rfl) ?_
    repeat (go_big_quiet_step (first | fail))
    refine wpQuiet_nil ?_
    intro w3 B3
    have hb3 := bot hb2 B3
    clear b1' ck2 c5 r_b1' r_ck2 r_c5 B2 B3
    go_wp2_with fail
    go_loopw [9] (fun i wi => ∃ j : Nat, j ≤ l1 ∧ i = .int .i64 j ∧ Below w1.heap.size w1 wi) (fun i _ => l1 - (intOf i).toNat)
    case atStart => exact ⟨0, Nat.zero_le _, rfl, hb3⟩
    case round =>
      clear hb3 hb2 hbel hbw hb1
      obtain ⟨j, hj, rfl, hb4⟩ := hrel
      have hbel := bot Q1.out hb4
      have hbw := bot HB0.out hbel
      by_cases hlj : j < l1
      case neg =>
        have hlj' : ¬ (j : Int) < (l1 : Int) := by omega
        go_wp2_with fail
        go_roundw
        case rel => exact ⟨k + 1, by omega, by go_num, hb4⟩
        case measure => simp [intOf]; omega
      have hjy : j < es.length := by have := Hl1.out; omega
      obtain ⟨b2, o2, cs2, rfl, _, hb2', ⟨rfl, hls, hti⟩, hcell2⟩ := (HES.out.below hbw (fun b h => h)).elem (List.getElem?_eq_getElem hjy)
      have d0 := hcell2 0 _ rfl
      have d1 := hcell2 1 _ rfl
      simp only [rEdge, Nat.add_zero] at d0 d1
      obtain ⟨⟨ho1, ho2, ho3⟩, htq⟩ := Hall.out _ (List.getElem_mem hjy)
      have b0 := below_cell hbel HA0.out.1 hz
      have hj0 : (0 : Int) ≤ (j : Int) := by omega
      have hjl : (j : Int) < (l1 : Int) := by omega
      obtain ⟨ed, hed⟩ : ∃ ed, ed = es[j] := ⟨_, rfl⟩
      rw [← hed] at d0 d1 hls hti ho1 ho2 ho3 htq
      clear hed hcell2
      obtain ⟨lb, tq⟩ := ed
      simp only at d0 d1 hls hti ho1 ho2 ho3 htq
      have hrl := lookI_range xs (k : Int) lb
      have H1 := Lib.hid (qcall (w := wr) (fun W hW => Hlk.out W (k : Int) lb hls (bot hbw hW)))
      generalize lookI xs (k : Int) lb = L at *
      obtain ⟨q4, rfl⟩ : ∃ q4 : Nat, L = (q4 : Int) := ⟨L.toNat, by omega⟩
      simp only [Int.toNat_natCast] at ho2 ho3
      have hq4x : q4 < xs.length := by omega
      have hq4n : (q4 : Int) < (n : Int) := by have := Hnx.out; omega
      have hq40 : (0 : Int) ≤ (q4 : Int) := by omega
      have hq4d : decide ((q4 : Int) < 0) = false := decide_eq_false (by omega)
      have hrt := Hmr.out _ (List.mem_of_getElem? ho3)
      have hpk := ho2
      have hq3 : tq.toNat < gs.length := by
        unfold packIs at hpk
        rw [List.getElem?_eq_getElem hq4x] at hpk
        rcases hgg : gs[tq.toNat]? with _ | x
        · rw [hgg] at hpk; cases hpk
        · exact (List.getElem?_eq_some_iff.1 hgg).1
      have hm4 := below_cell hb4 (Hmc.out q4 _ ho3) hmb
      have r_b0 := cell_regrown b0
      have r_d0 := cell_regrown d0
      go_wp2_with fail
      refine wp_region_qb (by kernel_rfl) (by kernel_rfl) ?_
      repeat (go_big_quiet_step (first | (with_reducible exact H1.out _ _)))
      refine wpQuiet_nil ?_
      intro w5 B5
      have hb5 := bot hb4 B5
      have hbel5 := bot Q1.out hb5
      have hbw5 := bot HB0.out hbel5
      obtain ⟨q3, rfl⟩ : ∃ q3 : Nat, tq = (q3 : Int) := ⟨tq.toNat, by omega⟩
      simp only [Int.toNat_natCast] at hq3 hpk ho2
      rw [packIs_at hq4x hq3, Bool.and_eq_true, decide_eq_true_eq] at hpk
      obtain ⟨hnm, hvr⟩ := hpk
      have hvr := eqB_of hvr
      have hq3m : (q3 : Int) < (m : Int) := by have := Hmg.out; omega
      have hq30 : (0 : Int) ≤ (q3 : Int) := by omega
      have hqq : ((q3 : Int) != (q3 : Int)) = false := by simp
      obtain ⟨bx, ox, csx, hAe, hSx, hbx, hhx, hcellx⟩ := HX.out.elem (List.getElem?_eq_getElem hq4x)
      obtain ⟨s0, s1, s2, s3, rfl, _, _, _, _, _, _, _, _, _⟩ := hhx
      obtain ⟨bg, og, csg, hBe, hSg, hbg, hhg, hcellg⟩ := HG.out.elem (List.getElem?_eq_getElem hq3)
      obtain ⟨t0, t1, rfl, _, _, _, _, _, _⟩ := hhg
      subst hAe
      simp only [Option.some.injEq, Addr.mk.injEq] at hBe
      obtain ⟨rfl, rfl, _⟩ := hBe
      have x1 := below_cell hbw5 (hcellx 1 _ rfl) hbx
      have x2 := below_cell hbw5 (hcellx 2 _ rfl) hbx
      have x3 := below_cell hbw5 (hcellx 3 _ rfl) hbx
      have x4 := below_cell hbw5 (hcellx 4 _ rfl) hbx
      have y0 := below_cell hbw5 (hcellg 0 _ rfl) hbg
      have y1 := below_cell hbw5 (hcellg 1 _ rfl) hbg
      have y2 := below_cell hbw5 (hcellg 2 _ rfl) hbg
      have y3 := below_cell hbw5 (hcellg 3 _ rfl) hbg
      simp only [rDir, rNode, Nat.add_zero] at x1 x2 x3 x4 y0 y1 y2 y3
      rw [hnm] at x1
      rw [hvr] at x2 x3 x4
      have hneq := fun W => neq_ver W gs[q3].ver.major gs[q3].ver.minor gs[q3].ver.patch gs[q3].ver.major gs[q3].ver.minor gs[q3].ver.patch
      rw [decide_eq_true ⟨rfl, rfl, rfl⟩] at hneq
      have g0 := below_cell hbel5 HA0.out.1 hz
      have g1 := below_cell hbel5 HA0.out.2 hz1
      have m4 := below_cell hb5 (Hmc.out q4 _ ho3) hmb
      have d1' := below_cell B5 d1 hb2'
      have hbn := beq_true (rfl : gs[q3].name = gs[q3].name)
      clear hcellx hcellg hnm hvr ho1 ho2 ho3 hrt hrl hti hls htq b0 d0 d1 hm4 r_b0 r_d0 H1
      generalize gs[q3].ver.major = z1 at *
      generalize gs[q3].ver.minor = z2 at *
      generalize gs[q3].ver.patch = z3 at *
      generalize gs[q3].name = p1 at *
      have r_g0 := cell_regrown g0
      have r_g1 := cell_regrown g1
      have r_m4 := cell_regrown m4
      have r_d1' := cell_regrown d1'
      have r_x1 := cell_regrown x1
      have r_x2 := cell_regrown x2
      have r_x3 := cell_regrown x3
      have r_x4 := cell_regrown x4
      have r_y0 := cell_regrown y0
      have r_y1 := cell_regrown y1
      have r_y2 := cell_regrown y2
      have r_y3 := cell_regrown y3
      go_wp2_with fail
      refine wp_region_qb (by kernel_rfl) (by kernel_rfl) ?_
      repeat (go_big_quiet_step (first | fail))
      refine wpQuiet_nil ?_
      intro w6 B6
      have hb6 := bot hb5 B6
      go_wp2_with fail
      go_roundw
      case rel => exact ⟨j + 1, by omega, by go_num, hb6⟩
      case measure => simp [intOf]; omega
end Go.Proofs.YtanipbpphbkmcaaDoor
