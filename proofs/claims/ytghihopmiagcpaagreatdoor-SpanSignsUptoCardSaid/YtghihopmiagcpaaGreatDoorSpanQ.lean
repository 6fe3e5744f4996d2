/-
  Ranges held against one another; the range of all; the range whose text is fixed: walked.
-/
import Derived.Test.YtghihopmiagcpaaGreatDoorSpanI
import Derived.Test.YtghihopmiagcpaaGreatDoorSame
set_option autoImplicit false
set_option relaxedAutoImplicit false
set_option linter.unusedVariables false
set_option linter.unusedSimpArgs false
namespace Go.Proofs.YtghihopmiagcpaaGreatDoor
open Go.Rows Go.RowKit Go.Shelf Go.Sort

set_option maxHeartbeats 800000 in
theorem same3_any (A B : Option Addr) (n m c d : Nat) (xs ys : List Spn) (w : World) (S T : Nat → Prop) (hx : SlV rSpn w S xs (.slice A n c)) (hy : SlV rSpn w T ys (.slice B m d)) :
    Calls Tryz.prog 19 #[.slice A n c, .slice B m d] w fun e w' => e = .returned (.bool (eqB xs ys)) ∧ Below w.heap.size w w' := by
  have hnx := hx.n_eq
  have hny := hy.n_eq
  have hcx := hx.cap_le
  have hcy := hy.cap_le
  unfold maxLen at hcx hcy
  by_cases hnm : n = m
  · have hb : ((n : Int) != (m : Int)) = false := by simp [hnm]
    have hn63 : n ≤ 9223372036854775807 := by omega
    have hx' := hx.more (S' := fun b => b < w.heap.size) fun b _ h => h
    have hy' := hy.more (S' := fun b => b < w.heap.size) fun b _ h => h
    have Hpos : Hid (xs = ys → eqB xs ys = true) := fun h => eqB_true h
    have Hneg : Hid (xs ≠ ys → eqB xs ys = false) := fun h => eqB_false h
    have Hnm := Lib.hid hnm; clear hnm
    have Hnx := Lib.hid hnx; clear hnx
    have Hny := Lib.hid hny; clear hny
    clear hcx hcy hx hy
    generalize eqB xs ys = r at *
    go_enter Tryz.func19, Tryz.ntmps19
    go_wp2_with fail
    go_loopw [5] (fun i wr => ∃ k : Nat, k ≤ n ∧ i = .int .i64 k ∧ Hid (xs.take k = ys.take k) ∧ Below w.heap.size w wr) (fun i _ => n - (intOf i).toNat)
    case atStart => exact ⟨0, Nat.zero_le _, rfl, by simp [Hid], Below.refl _ _⟩
    case round =>
      obtain ⟨k, hk, rfl, heq, hbel⟩ := hrel
      by_cases hlt : k < n
      · have hkx : k < xs.length := by have := Hnx.out; omega
        have hky : k < ys.length := by have := Hny.out; have := Hnm.out; omega
        have hkm : k < m := by have := Hnm.out; omega
        have hxw := hx'.below hbel (fun b h => h)
        have hyw := hy'.below hbel (fun b h => h)
        obtain ⟨b, o, cs, rfl, _, hb1, ⟨rfl, _, _, _, _, _, _⟩, hcell⟩ := hxw.elem (List.getElem?_eq_getElem hkx)
        obtain ⟨b', o', cs', rfl, _, hb2, ⟨rfl, _, _, _, _, _, _⟩, hcell'⟩ := hyw.elem (List.getElem?_eq_getElem hky)
        have c0 := hcell 0 _ rfl
        have c1 := hcell 1 _ rfl
        have c2 := hcell 2 _ rfl
        have c3 := hcell 3 _ rfl
        have c4 := hcell 4 _ rfl
        have c5 := hcell 5 _ rfl
        have d0 := hcell' 0 _ rfl
        have d1 := hcell' 1 _ rfl
        have d2 := hcell' 2 _ rfl
        have d3 := hcell' 3 _ rfl
        have d4 := hcell' 4 _ rfl
        have d5 := hcell' 5 _ rfl
        simp only [rSpn, Nat.add_zero] at c0 c1 c2 c3 c4 c5 d0 d1 d2 d3 d4 d5
        clear hcell hcell' hxw hyw
        have Hne := Lib.hid (fun h => ne_at hkx hky h)
        have Hen := Lib.hid (fun h => take_next heq.out hkx hky h)
        have hop : ∀ W, (binOp .neq 47 (.agg #[.int .i64 xs[k].lo.major, .int .i64 xs[k].lo.minor, .int .i64 xs[k].lo.patch, .int .i64 xs[k].hi.major, .int .i64 xs[k].hi.minor, .int .i64 xs[k].hi.patch]) (.agg #[.int .i64 ys[k].lo.major, .int .i64 ys[k].lo.minor, .int .i64 ys[k].lo.patch, .int .i64 ys[k].hi.major, .int .i64 ys[k].hi.minor, .int .i64 ys[k].hi.patch])).run Tryz.prog W = .ok (.bool (!eqB xs[k] ys[k])) W := fun W => by
          rw [neq_spn]
          by_cases e : xs[k] = ys[k]
          · rw [eqB_true e, decide_eq_true (spn_eq.2 e)]
          · rw [eqB_false e, decide_eq_false (fun h => e (spn_eq.1 h))]
        have Hq : Hid (eqB xs[k] ys[k] = true ∧ xs[k] = ys[k] ∨ eqB xs[k] ys[k] = false ∧ xs[k] ≠ ys[k]) := by
          by_cases e : xs[k] = ys[k]
          · exact .inl ⟨eqB_true e, e⟩
          · exact .inr ⟨eqB_false e, e⟩
        have Hq1 : Hid (eqB xs[k] ys[k] = true → xs.take (k + 1) = ys.take (k + 1)) := fun h => Hen.out (eqB_iff.1 h)
        have Hq2 : Hid (eqB xs[k] ys[k] = false → r = false) := fun h => Hneg.out (Hne.out (fun e => by rw [eqB_true e] at h; cases h))
        clear Hq Hne Hen
        have hk0 : (0 : Int) ≤ (k : Int) := by omega
        have hkn : (k : Int) < (n : Int) := by omega
        have hkm' : (k : Int) < (m : Int) := by omega
        generalize eqB xs[k] ys[k] = q at *
        generalize xs[k].lo.major = x1 at *
        generalize xs[k].lo.minor = x2 at *
        generalize xs[k].lo.patch = x3 at *
        generalize xs[k].hi.major = x4 at *
        generalize xs[k].hi.minor = x5 at *
        generalize xs[k].hi.patch = x6 at *
        generalize ys[k].lo.major = y1 at *
        generalize ys[k].lo.minor = y2 at *
        generalize ys[k].lo.patch = y3 at *
        generalize ys[k].hi.major = y4 at *
        generalize ys[k].hi.minor = y5 at *
        generalize ys[k].hi.patch = y6 at *
        have r_c0 := cell_regrown c0
        have r_c1 := cell_regrown c1
        have r_c2 := cell_regrown c2
        have r_c3 := cell_regrown c3
        have r_c4 := cell_regrown c4
        have r_c5 := cell_regrown c5
        have r_d0 := cell_regrown d0
        have r_d1 := cell_regrown d1
        have r_d2 := cell_regrown d2
        have r_d3 := cell_regrown d3
        have r_d4 := cell_regrown d4
        have r_d5 := cell_regrown d5
        cases q
        · have He := Lib.hid (Hq2.out rfl)
          clear Hq1 Hq2
          go_wp2_with fail
          refine wp_region_qb (by kernel_rfl) (by kernel_rfl) ?_
          repeat (go_big_quiet_step (first | fail))
          refine wpQuiet_nil ?_
          intro w1 B1
          go_wp2_with fail
          go_ret
          exact ⟨ret_bool He.out.symm, bot hbel B1⟩
        · have He := Lib.hid (Hq1.out rfl)
          clear Hq1 Hq2
          go_wp2_with fail
          refine wp_region_qb (by kernel_rfl) (by kernel_rfl) ?_
          repeat (go_big_quiet_step (first | fail))
          refine wpQuiet_nil ?_
          intro w1 B1
          go_wp2_with fail
          go_roundw
          case rel => exact ⟨k + 1, by omega, by go_num, He, bot hbel B1⟩
          case measure => simp [intOf]; omega
      · have He : Hid (r = true) := Hpos.out (eq_of_takes heq.out (by have := Hnx.out; omega) (by have := Hny.out; have := Hnm.out; omega))
        go_wp2_with fail
        go_ret
        exact ⟨ret_bool He.out.symm, hbel⟩
  · have hb : ((n : Int) != (m : Int)) = true := by simp; omega
    have He : Hid (eqB xs ys = false) := eqB_false (by rintro rfl; omega)
    clear hnx hny hcx hcy hx hy hnm
    generalize eqB xs ys = r at *
    go_enter Tryz.func19, Tryz.ntmps19
    go_wp2_with fail
    go_ret
    exact ⟨ret_bool He.out.symm, Below.refl _ _⟩

def allS : List Spn := [⟨⟨0, 0, 0⟩, ⟨999, 999, 999⟩⟩]
set_option maxHeartbeats 800000 in
theorem spanAll_any (w : World) : Calls Tryz.prog 32 #[] w fun e w' => ∃ v, e = .returned v ∧ SlV rSpn w' (fun b => w.heap.size ≤ b) allS v ∧ Below w.heap.size w w' := by
  have H1 : Hid (∀ W, W = w.alloc (.cells #[.int .i64 0, .int .i64 999999999] 59) → Calls Tryz.prog 58 #[.slice (some ⟨w.heap.size, 0, none⟩) 1 1] W fun e w' => ∃ v, e = .returned v ∧ SlV rSpn w' (fun b => W.heap.size ≤ b) allS v ∧ Below W.heap.size W w') := fun W hW => by
    have := spans_any (some ⟨w.heap.size, 0, none⟩) 1 1 [((0, 999999999) : Rk)] W (fun _ => True) (by simp) (fun x hx => by simp at hx; subst hx; decide) (SlV.of_block (g := w.heap.size) (cs := #[.int .i64 0, .int .i64 999999999]) (t := 59) (fr := (0, 0)) (by rw [hW]; exact heap_alloc_new w _) (Elems.one_ (r := rRnk) (x := (0, 999999999)) (cs := [.int .i64 0, .int .i64 999999999]) ⟨rfl, by unfold I64; decide, by unfold I64; decide⟩) trivial rfl (by simp) (by unfold maxLen; simp))
    exact this
  go_enter Tryz.func32, Tryz.ntmps32
  go_wp2_with fail
  refine (H1.out _ rfl).mono ?_
  rintro e w1 ⟨v, rfl, hv, hb⟩
  obtain ⟨A1, c1, rfl, _, _⟩ := hv.val
  go_wp2_with fail
  go_ret
  exact ⟨_, rfl, hv.more fun b h _ => by have h' := h; simp at h'; show w.heap.size ≤ b; omega, bnew hb⟩

set_option maxHeartbeats 800000 in
theorem refAll_any (w : World) : Calls Tryz.prog 40 #[] w fun e w' => ∃ v, e = .returned v ∧ SlV rSpn w' (fun b => w.heap.size ≤ b) allS v ∧ Below w.heap.size w w' := by
  have H1 := Lib.hid (fun W => refAt03_any 0 (by decide) (by decide) W)
  have H2 := Lib.hid (fun W => refAt03_any 999999999 (by decide) (by decide) W)
  go_enter Tryz.func40, Tryz.ntmps40
  go_wp2_with fail
  refine (H1.out _).mono ?_
  rintro e w1 ⟨rfl, hb1⟩
  have HB1 := Lib.hid hb1
  clear hb1
  go_wp2_with fail
  refine (H2.out _).mono ?_
  rintro e w2 ⟨rfl, hb2⟩
  have HB2 := Lib.hid (bot HB1.out hb2)
  have hz := HB2.out.size
  clear hb2
  go_wp2_with fail
  go_ret
  refine ⟨_, rfl, ?_, bal HB2.out _⟩
  exact SlV.of_block (g := w2.heap.size) (cs := #[.int .i64 0, .int .i64 0, .int .i64 0, .int .i64 999, .int .i64 999, .int .i64 999]) (heap_alloc_new w2 _) (Elems.one_ (r := rSpn) (x := ⟨⟨0, 0, 0⟩, ⟨999, 999, 999⟩⟩) (cs := [.int .i64 0, .int .i64 0, .int .i64 0, .int .i64 999, .int .i64 999, .int .i64 999]) ⟨rfl, by unfold I64; decide, by unfold I64; decide, by unfold I64; decide, by unfold I64; decide, by unfold I64; decide, by unfold I64; decide⟩) hz rfl (by simp [allS]) (by unfold maxLen; simp)
end Go.Proofs.YtghihopmiagcpaaGreatDoor
