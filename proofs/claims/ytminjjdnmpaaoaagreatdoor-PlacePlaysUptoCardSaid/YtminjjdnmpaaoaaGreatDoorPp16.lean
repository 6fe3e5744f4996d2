/-
  tree.stands: may a directory other than the root be where it is?
-/
import Derived.Test.YtminjjdnmpaaoaaGreatDoorPp07
import Derived.Test.YtminjjdnmpaaoaaGreatDoorPp14
import Derived.Test.YtminjjdnmpaaoaaGreatDoorPp15
set_option autoImplicit false
set_option relaxedAutoImplicit false
set_option linter.unusedVariables false
set_option linter.unusedSimpArgs false
namespace Go.Proofs.YtminjjdnmpaaoaaGreatDoor
open Go.Rows Go.RowKit Go.Shelf Go.Sort

def lastN (p : List ByteArray) : ByteArray := p.getD (p.length - 1) ⟨#[]⟩
noncomputable def standsB (t : List Dir) (d : Dir) (k : Nat) : Bool :=
  decide (d.path.length ≠ 0) && (decide (textB d.path ≠ ⟨#[]⟩) && (decide ((textB d.path).size ≤ 1024) && (decide (1 ≤ d.node) && (decide (findI t d.path = (k : Int)) && (decide (0 ≤ aboveI t d.path) && (decide (aboveI t d.path < (k : Int)) && (packB d.pack && decide (d.pack.name = lastN d.path))))))))

/-- the cells of a directory, one by one -/
theorem dir_cells {w : World} {S : Nat → Prop} {d : Dir} {cs : List Value} (h : rDir.holds w S d cs) : ∃ A a B b C c D e, cs = [.slice A d.path.length a, .string d.pack.name, .int .i64 d.pack.ver.major, .int .i64 d.pack.ver.minor, .int .i64 d.pack.ver.patch, .slice B d.pack.deps.length b, .slice C d.pack.peers.length c, .slice D d.pack.opts.length e, .int .i64 d.node] ∧
    SlV rStr w S d.path (.slice A d.path.length a) ∧ PackV w S d.pack (.agg #[.string d.pack.name, .int .i64 d.pack.ver.major, .int .i64 d.pack.ver.minor, .int .i64 d.pack.ver.patch, .slice B d.pack.deps.length b, .slice C d.pack.peers.length c, .slice D d.pack.opts.length e]) ∧ I64 d.node := by
  obtain ⟨s0, s1, s2, s3, rfl, hp0, hn, _, _, _, hp1, hp2, hp3, hd⟩ := h
  obtain ⟨pA, pc, rfl, _, _⟩ := hp0.val
  obtain ⟨pB, pd, rfl, _, _⟩ := hp1.val
  obtain ⟨pC, pe, rfl, _, _⟩ := hp2.val
  obtain ⟨pD, pf, rfl, _, _⟩ := hp3.val
  exact ⟨_, _, _, _, _, _, _, _, rfl, hp0, ⟨_, _, _, _, _, _, _, _, _, rfl, hn, hp1, hp2, hp3⟩, hd⟩

set_option maxHeartbeats 3200000 in
set_option maxRecDepth 100000 in
theorem stands_any (A : Option Addr) (n c : Nat) (xs : List Dir) (w : World) (S : Nat → Prop) (k : Nat) (hk : k < xs.length) (ht : Tab w) (hlen : ∀ d ∈ xs, d.path.length * 32 ≤ 140737488355328) (hx : SlV rDir w S xs (.slice A n c)) :
    Calls Tryz.prog 45 #[.agg #[.slice A n c], .int .i64 k] w fun e w' => e = .returned (.bool (standsB xs xs[k] k)) ∧ Below w.heap.size w w' := by
  have hnx := hx.n_eq
  have hcx := hx.cap_le
  unfold maxLen at hcx
  have hn63 : n ≤ 9223372036854775807 := by omega
  have hx0 := hx
  obtain ⟨b, o, cs, rfl, _, hb1, hh, hcell⟩ := hx.elem (List.getElem?_eq_getElem hk)
  obtain ⟨pA, pa, pB, pb, pC, pc, pD, pd, rfl, hp, hpk, hI⟩ := dir_cells hh
  have hpc := hp.cap_le
  unfold maxLen at hpc
  have hlk := hlen xs[k] (List.getElem_mem hk)
  have c0 := hcell 0 _ rfl
  have c1 := hcell 1 _ rfl
  have c2 := hcell 2 _ rfl
  have c3 := hcell 3 _ rfl
  have c4 := hcell 4 _ rfl
  have c5 := hcell 5 _ rfl
  have c6 := hcell 6 _ rfl
  have c7 := hcell 7 _ rfl
  have c8 := hcell 8 _ rfl
  simp only [rDir, Nat.add_zero] at c0 c1 c2 c3 c4 c5 c6 c7 c8
  have HR : Hid (standsB xs xs[k] k = (decide (xs[k].path.length ≠ 0) && (decide (textB xs[k].path ≠ ⟨#[]⟩) && (decide ((textB xs[k].path).size ≤ 1024) && (decide (1 ≤ xs[k].node) && (decide (findI xs xs[k].path = (k : Int)) && (decide (0 ≤ aboveI xs xs[k].path) && (decide (aboveI xs xs[k].path < (k : Int)) && (packB xs[k].pack && decide (xs[k].pack.name = lastN xs[k].path)))))))))) := rfl
  have Htx : Hid (∀ W, Below w.heap.size w W → Calls Tryz.prog 19 #[.slice pA xs[k].path.length pa] W fun e w' => e = .returned (.string (textB xs[k].path)) ∧ Below W.heap.size W w') := fun W hW => treeText_any _ _ _ _ W (fun b => b < w.heap.size) (fun b h => Nat.lt_of_lt_of_le h hW.size) hlk ((hp.more (S' := fun b => b < w.heap.size) fun b _ h => h).belowSize hW)
  have Hfd : Hid (∀ W, Below w.heap.size w W → Calls Tryz.prog 18 #[.agg #[.slice (some ⟨b, o, none⟩) n c], .slice pA xs[k].path.length pa] W fun e w' => e = .returned (.int .i64 (findI xs xs[k].path)) ∧ Below W.heap.size W w') := fun W hW => find_any _ _ _ _ _ _ _ _ W _ _ (hx0.belowSize hW) (hp.belowSize hW)
  have Hab : Hid (∀ q, xs[k].path.length = q + 1 → ∀ W, Below w.heap.size w W → Calls Tryz.prog 18 #[.agg #[.slice (some ⟨b, o, none⟩) n c], .slice pA q pa] W fun e w' => e = .returned (.int .i64 (aboveI xs xs[k].path)) ∧ Below W.heap.size W w') := fun q hq W hW => by
    have e : aboveI xs xs[k].path = findI xs (xs[k].path.take q) := by unfold aboveI; rw [hq]; rfl
    rw [e]
    exact find_any _ _ _ _ _ _ xs (xs[k].path.take q) W _ _ (hx0.belowSize hW) ((hp.take (by omega)).belowSize hW)
  have Hpk : Hid (∀ W, Below w.heap.size w W → Calls Tryz.prog 71 #[.agg #[.string xs[k].pack.name, .int .i64 xs[k].pack.ver.major, .int .i64 xs[k].pack.ver.minor, .int .i64 xs[k].pack.ver.patch, .slice pB xs[k].pack.deps.length pb, .slice pC xs[k].pack.peers.length pc, .slice pD xs[k].pack.opts.length pd]] W fun e w' => e = .returned (.bool (packB xs[k].pack)) ∧ Below W.heap.size W w') := fun W hW => packMay_any xs[k].pack _ W _ (tab_below ht hW) (hpk.keep hW)
  have Hlast : Hid (∀ q, xs[k].path.length = q + 1 → ∃ g u, pA = some ⟨g, u, none⟩ ∧ g < w.heap.size ∧ w.cell? ⟨g, u + q, none⟩ = some (.string (lastN xs[k].path))) := fun q hq => by
    have hq' : q < xs[k].path.length := by omega
    obtain ⟨g, u, cs', rfl, _, hg, ⟨rfl, _⟩, hc⟩ := hp.elem (List.getElem?_eq_getElem hq')
    have := hc 0 _ rfl
    simp only [rStr, Nat.add_zero, Nat.mul_one] at this
    refine ⟨g, u, rfl, hg, ?_⟩
    rw [this]; unfold lastN; rw [hq, List.getD_eq_getElem?_getD, show q + 1 - 1 = q from rfl, List.getElem?_eq_getElem hq']; rfl
  clear hcell hp hpk hx hx0 hh hlk hlen
  have hI1 := hI.1
  have hI2 := hI.2
  clear hI
  generalize standsB xs xs[k] k = R at *
  generalize textB xs[k].path = tx at *
  generalize findI xs xs[k].path = f at *
  generalize aboveI xs xs[k].path = ab at *
  generalize packB xs[k].pack = pk at *
  generalize lastN xs[k].path = ls at *
  generalize xs[k].path.length = l0 at *
  generalize xs[k].pack.deps.length = l1 at *
  generalize xs[k].pack.peers.length = l2 at *
  generalize xs[k].pack.opts.length = l3 at *
  generalize xs[k].pack.name = nm at *
  generalize xs[k].pack.ver.major = y1 at *
  generalize xs[k].pack.ver.minor = y2 at *
  generalize xs[k].pack.ver.patch = y3 at *
  generalize xs[k].node = nd at *
  have hkn : (k : Int) < (n : Int) := by omega
  have hk0 : (0 : Int) ≤ (k : Int) := by omega
  clear hk hcx hnx ht
  go_enter Tryz.func45, Tryz.ntmps45
  go_wp2_with fail
  obtain ⟨w0, hw0⟩ : ∃ w0, w0 = (w.alloc (.cells #[.slice (some ⟨b, o, none⟩) n c] 33)).alloc (.cells #[.slice pA l0 pa, .string nm, .int .i64 y1, .int .i64 y2, .int .i64 y3, .slice pB l1 pb, .slice pC l2 pc, .slice pD l3 pd, .int .i64 nd] 54) := ⟨_, rfl⟩
  have hz : w.heap.size < w0.heap.size := by rw [hw0]; simp [go_sem]
  have hz1 : w.heap.size + 1 < w0.heap.size := by rw [hw0]; simp [go_sem]
  have hb0 : Below w.heap.size w w0 := by rw [hw0]; exact bal (bal (Below.refl _ _) _) _
  have a0 : w0.cell? ⟨w.heap.size, 0, none⟩ = some (.slice (some ⟨b, o, none⟩) n c) := by rw [hw0]; simp [go_sem]
  have e0 : w0.cell? ⟨w.heap.size + 1, 0, none⟩ = some (.slice pA l0 pa) := by rw [hw0]; simp [go_sem]
  have e1 : w0.cell? ⟨w.heap.size + 1, 1, none⟩ = some (.string nm) := by rw [hw0]; simp [go_sem]
  have e2 : w0.cell? ⟨w.heap.size + 1, 2, none⟩ = some (.int .i64 y1) := by rw [hw0]; simp [go_sem]
  have e3 : w0.cell? ⟨w.heap.size + 1, 3, none⟩ = some (.int .i64 y2) := by rw [hw0]; simp [go_sem]
  have e4 : w0.cell? ⟨w.heap.size + 1, 4, none⟩ = some (.int .i64 y3) := by rw [hw0]; simp [go_sem]
  have e5 : w0.cell? ⟨w.heap.size + 1, 5, none⟩ = some (.slice pB l1 pb) := by rw [hw0]; simp [go_sem]
  have e6 : w0.cell? ⟨w.heap.size + 1, 6, none⟩ = some (.slice pC l2 pc) := by rw [hw0]; simp [go_sem]
  have e7 : w0.cell? ⟨w.heap.size + 1, 7, none⟩ = some (.slice pD l3 pd) := by rw [hw0]; simp [go_sem]
  have e8 : w0.cell? ⟨w.heap.size + 1, 8, none⟩ = some (.int .i64 nd) := by rw [hw0]; simp [go_sem]
  rw [← hw0]
  have HB0 := Lib.hid hb0; clear hb0 hw0 c0 c1 c2 c3 c4 c5 c6 c7 c8
  have HS : Hid (∀ W, Below w0.heap.size w0 W → Below w.heap.size w W) := fun W hW => bot HB0.out hW
  refine (Htx.out w0 HB0.out).mono ?_
  rintro e w1 ⟨rfl, B1⟩
  have Q1 := Lib.hid B1; clear B1 Htx
  have f0 := below_cell Q1.out e0 hz1
  have f8 := below_cell Q1.out e8 hz1
  have g0 := below_cell Q1.out a0 hz
  by_cases hl0 : l0 = 0
  · have hzb : ((l0 : Int) == 0) = true := by simp [hl0]
    have He : Hid (R = false) := by unfold Hid; rw [HR.out, hl0]; rfl
    clear hl0
    go_wp2_with fail
    go_ret
    exact ⟨ret_bool He.out.symm, HS.out _ Q1.out⟩
  obtain ⟨q, rfl⟩ : ∃ q, l0 = q + 1 := ⟨l0 - 1, by omega⟩
  clear hl0
  have hqb : (((q + 1 : Nat) : Int) == 0) = false := by simp; omega
  have hqb' : (((q : Int) + 1) == 0) = false := by simp; omega
  obtain ⟨g, u, rfl, hg, hlc⟩ := Hlast.out q rfl
  by_cases htx : tx = ⟨#[]⟩
  · have htb := beq_true htx
    have htl : tx.toList = [] := by rw [htx, Go.ByteArray.toList_eq]
    have htm : tx.toList.isEmpty = true := by rw [htl]; rfl
    have He : Hid (R = false) := by unfold Hid; rw [HR.out, htx]; rfl
    clear htx
    go_wp2_with fail
    go_ret
    exact ⟨ret_bool He.out.symm, HS.out _ Q1.out⟩
  have htb := beq_false htx
  have htl : ¬ tx.toList = [] := fun h => htx (ByteArray.ext (Array.ext' (by rw [Go.ByteArray.toList_eq] at h; exact h)))
  have htm : tx.toList.isEmpty = false := by cases e : tx.toList with | nil => exact absurd e htl | cons => rfl
  have Htn := Lib.hid htx; clear htx
  by_cases hsz : tx.size ≤ 1024
  case neg =>
    have hsi : (1024 : Int) < (tx.size : Int) := by omega
    have hsj : ¬ (tx.size : Int) ≤ 1024 := by omega
    have hsk : decide ((1024 : Int) < (tx.size : Int)) = true := decide_eq_true hsi
    have He : Hid (R = false) := by unfold Hid; rw [HR.out, decide_eq_false hsz]; simp
    clear hsz
    go_wp2_with fail
    go_ret
    exact ⟨ret_bool He.out.symm, HS.out _ Q1.out⟩
  have hsi : ¬ (1024 : Int) < (tx.size : Int) := by omega
  have hsj : (tx.size : Int) ≤ 1024 := by omega
  have hsk : decide ((1024 : Int) < (tx.size : Int)) = false := decide_eq_false hsi
  by_cases hnd : 1 ≤ nd
  case neg =>
    have hni : nd < 1 := by omega
    have hnk : decide (nd < 1) = true := decide_eq_true hni
    have He : Hid (R = false) := by unfold Hid; rw [HR.out, decide_eq_false hnd]; simp
    clear hnd
    go_wp2_with fail
    go_ret
    exact ⟨ret_bool He.out.symm, HS.out _ Q1.out⟩
  have hni : ¬ nd < 1 := by omega
  have hnk : decide (nd < 1) = false := decide_eq_false hni
  have HR2 : Hid (R = (decide (f = (k : Int)) && (decide (0 ≤ ab) && (decide (ab < (k : Int)) && (pk && decide (nm = ls)))))) := by
    unfold Hid; rw [HR.out, decide_eq_true Htn.out, decide_eq_true hsz, decide_eq_true hnd]; simp
  clear HR hsz hnd Hlast Htn
  go_wp2_with fail
  refine (Hfd.out w1 (HS.out _ Q1.out)).mono ?_
  rintro e w2 ⟨rfl, B2⟩
  have Q2 := Lib.hid (bot Q1.out B2); clear B2 Hfd f0 f8 g0
  by_cases hf : f = (k : Int)
  case neg =>
    have hfb : (f != (k : Int)) = true := by simp [hf]
    have He : Hid (R = false) := by unfold Hid; rw [HR2.out, decide_eq_false hf]; simp
    clear hf
    go_wp2_with fail
    go_ret
    exact ⟨ret_bool He.out.symm, HS.out _ Q2.out⟩
  have hfb : (f != (k : Int)) = false := by simp [hf]
  have HR3 : Hid (R = (decide (0 ≤ ab) && (decide (ab < (k : Int)) && (pk && decide (nm = ls))))) := by
    unfold Hid; rw [HR2.out, decide_eq_true hf]; simp
  clear HR2 hf
  go_wp2_with fail
  have h0 := below_cell Q2.out e0 hz1
  have h1 := below_cell Q2.out a0 hz
  have hw1 : IntKind.i64.wrap ((q : Int) + 1 - 1) = (q : Int) := (IntWalk.i64_in _ ⟨by omega, by omega⟩).trans (by omega)
  have hw2 : IntKind.i64.wrap (q : Int) = (q : Int) := IntWalk.i64_in _ ⟨by omega, by omega⟩
  have hqc : q ≤ pa := by omega
  have Hc := Lib.hid (qcall (w := w2) (fun W hW => Hab.out q rfl W (bot (HS.out _ Q2.out) hW)))
  clear Hab
  have r_h0 := cell_regrown h0
  have r_h1 := cell_regrown h1
  refine wp_region_qb (by kernel_rfl) (by kernel_rfl) ?_
  repeat (go_big_quiet_step (first | (with_reducible exact Hc.out _ _)))
  refine wpQuiet_nil ?_
  intro w3 B3
  have Q3 := Lib.hid (bot Q2.out B3); clear B3 Hc r_h0 r_h1 h0 h1
  have i0 := below_cell Q3.out e0 hz1
  have i1 := below_cell Q3.out e1 hz1
  have i2 := below_cell Q3.out e2 hz1
  have i3 := below_cell Q3.out e3 hz1
  have i4 := below_cell Q3.out e4 hz1
  have i5 := below_cell Q3.out e5 hz1
  have i6 := below_cell Q3.out e6 hz1
  have i7 := below_cell Q3.out e7 hz1
  have i8 := below_cell (HS.out _ Q3.out) hlc hg
  have Hc := Lib.hid (qcall (w := w3) (fun W hW => Hpk.out W (bot (HS.out _ Q3.out) hW)))
  have hqn : (q : Int) < ((q + 1 : Nat) : Int) := by omega
  have hqn' : (q : Int) < (q : Int) + 1 := by omega
  have hq0 : (0 : Int) ≤ (q : Int) := by omega
  clear Hpk a0 e0 e1 e2 e3 e4 e5 e6 e7 e8
  have r_i0 := cell_regrown i0
  have r_i1 := cell_regrown i1
  have r_i2 := cell_regrown i2
  have r_i3 := cell_regrown i3
  have r_i4 := cell_regrown i4
  have r_i5 := cell_regrown i5
  have r_i6 := cell_regrown i6
  have r_i7 := cell_regrown i7
  have r_i8 := cell_regrown i8
  by_cases hab : 0 ≤ ab
  case neg =>
    have He : Hid (R = false) := by unfold Hid; rw [HR3.out, decide_eq_false hab]; simp
    have hak : decide (0 ≤ ab) = false := decide_eq_false hab
    go_wp2_with fail
    refine wp_region_qb (by kernel_rfl) (by kernel_rfl) ?_
    repeat (go_big_quiet_step (first | (with_reducible exact Hc.out _ _)))
    refine wpQuiet_nil ?_
    intro w4 B4
    go_wp2_with fail
    go_ret
    exact ⟨ret_bool He.out.symm, HS.out _ (bot Q3.out B4)⟩
  by_cases habk : ab < (k : Int)
  case neg =>
    have He : Hid (R = false) := by unfold Hid; rw [HR3.out, decide_eq_false habk]; simp
    have hak : decide (ab < (k : Int)) = false := decide_eq_false habk
    go_wp2_with fail
    refine wp_region_qb (by kernel_rfl) (by kernel_rfl) ?_
    repeat (go_big_quiet_step (first | (with_reducible exact Hc.out _ _)))
    refine wpQuiet_nil ?_
    intro w4 B4
    go_wp2_with fail
    go_ret
    exact ⟨ret_bool He.out.symm, HS.out _ (bot Q3.out B4)⟩
  have HR4 : Hid (R = (pk && decide (nm = ls))) := by
    unfold Hid; rw [HR3.out, decide_eq_true hab, decide_eq_true habk]; simp
  clear HR3
  cases pk
  · have He : Hid (R = false) := by unfold Hid; rw [HR4.out]; rfl
    go_wp2_with fail
    refine wp_region_qb (by kernel_rfl) (by kernel_rfl) ?_
    repeat (go_big_quiet_step (first | (with_reducible exact Hc.out _ _)))
    refine wpQuiet_nil ?_
    intro w4 B4
    go_wp2_with fail
    go_ret
    exact ⟨ret_bool He.out.symm, HS.out _ (bot Q3.out B4)⟩
  by_cases hnl : nm = ls
  · have hnb := beq_true hnl
    have He : Hid (R = true) := by unfold Hid; rw [HR4.out, decide_eq_true hnl]; rfl
    clear hnl
    go_wp2_with fail
    refine wp_region_qb (by kernel_rfl) (by kernel_rfl) ?_
    repeat (go_big_quiet_step (first | (with_reducible exact Hc.out _ _)))
    refine wpQuiet_nil ?_
    intro w4 B4
    go_wp2_with fail
    go_ret
    exact ⟨ret_bool He.out.symm, HS.out _ (bot Q3.out B4)⟩
  · have hnb := beq_false hnl
    have He : Hid (R = false) := by unfold Hid; rw [HR4.out, decide_eq_false hnl]; rfl
    clear hnl
    go_wp2_with fail
    refine wp_region_qb (by kernel_rfl) (by kernel_rfl) ?_
    repeat (go_big_quiet_step (first | (with_reducible exact Hc.out _ _)))
    refine wpQuiet_nil ?_
    intro w4 B4
    go_wp2_with fail
    go_ret
    exact ⟨ret_bool He.out.symm, HS.out _ (bot Q3.out B4)⟩
end Go.Proofs.YtminjjdnmpaaoaaGreatDoor
/-
  The document's stands: may a directory other than the root be where it is?
-/
set_option autoImplicit false
set_option relaxedAutoImplicit false
set_option linter.unusedVariables false
set_option linter.unusedSimpArgs false
namespace Go.Proofs.YtminjjdnmpaaoaaGreatDoor
open Go.Rows Go.RowKit Go.Shelf Go.Sort

set_option maxHeartbeats 3200000 in
set_option maxRecDepth 100000 in
theorem refStands_any (A : Option Addr) (n c : Nat) (xs : List Dir) (w : World) (S : Nat → Prop) (k : Nat) (hk : k < xs.length) (hlen : ∀ d ∈ xs, d.path.length * 32 ≤ 140737488355328) (hx : SlV rDir w S xs (.slice A n c)) :
    Calls Tryz.prog 54 #[.agg #[.slice A n c], .int .i64 k] w fun e w' => e = .returned (.bool (standsB xs xs[k] k)) ∧ Below w.heap.size w w' := by
  have hnx := hx.n_eq
  have hcx := hx.cap_le
  unfold maxLen at hcx
  have hn63 : n ≤ 9223372036854775807 := by omega
  have hx0 := hx
  obtain ⟨b, o, cs, rfl, _, hb1, hh, hcell⟩ := hx.elem (List.getElem?_eq_getElem hk)
  obtain ⟨pA, pa, pB, pb, pC, pc, pD, pd, rfl, hp, hpk, hI⟩ := dir_cells hh
  have hpc := hp.cap_le
  unfold maxLen at hpc
  have hlk := hlen xs[k] (List.getElem_mem hk)
  have c0 := hcell 0 _ rfl
  have c1 := hcell 1 _ rfl
  have c2 := hcell 2 _ rfl
  have c3 := hcell 3 _ rfl
  have c4 := hcell 4 _ rfl
  have c5 := hcell 5 _ rfl
  have c6 := hcell 6 _ rfl
  have c7 := hcell 7 _ rfl
  have c8 := hcell 8 _ rfl
  simp only [rDir, Nat.add_zero] at c0 c1 c2 c3 c4 c5 c6 c7 c8
  have HR : Hid (standsB xs xs[k] k = (decide (xs[k].path.length ≠ 0) && (decide (textB xs[k].path ≠ ⟨#[]⟩) && (decide ((textB xs[k].path).size ≤ 1024) && (decide (1 ≤ xs[k].node) && (decide (findI xs xs[k].path = (k : Int)) && (decide (0 ≤ aboveI xs xs[k].path) && (decide (aboveI xs xs[k].path < (k : Int)) && (packB xs[k].pack && decide (xs[k].pack.name = lastN xs[k].path)))))))))) := rfl
  have Htx : Hid (∀ W, Below w.heap.size w W → Calls Tryz.prog 61 #[.slice pA xs[k].path.length pa] W fun e w' => e = .returned (.string (textB xs[k].path)) ∧ Below W.heap.size W w') := fun W hW => (refText_any _ _ _ _ W _ hlk (hp.belowSize hW)).mono fun e w' h => ⟨h.1, h.2 ▸ Below.refl _ _⟩
  have Hfd : Hid (∀ W, Below w.heap.size w W → Calls Tryz.prog 93 #[.agg #[.slice (some ⟨b, o, none⟩) n c], .slice pA xs[k].path.length pa] W fun e w' => e = .returned (.int .i64 (findI xs xs[k].path)) ∧ Below W.heap.size W w') := fun W hW => refFind_any _ _ _ _ _ _ _ _ W _ _ (hx0.belowSize hW) (hp.belowSize hW)
  have Hab : Hid (xs[k].path.length ≠ 0 → ∀ W, Below w.heap.size w W → Calls Tryz.prog 94 #[.agg #[.slice (some ⟨b, o, none⟩) n c], .int .i64 k] W fun e w' => e = .returned (.int .i64 (aboveI xs xs[k].path)) ∧ Below W.heap.size W w') := fun hq W hW =>
    refParent_at _ _ _ xs W _ k hk (fun h => hq (by rw [h]; rfl)) (hx0.belowSize hW)
  have Hpk : Hid (∀ W, Below w.heap.size w W → Calls Tryz.prog 63 #[.agg #[.string xs[k].pack.name, .int .i64 xs[k].pack.ver.major, .int .i64 xs[k].pack.ver.minor, .int .i64 xs[k].pack.ver.patch, .slice pB xs[k].pack.deps.length pb, .slice pC xs[k].pack.peers.length pc, .slice pD xs[k].pack.opts.length pd]] W fun e w' => e = .returned (.bool (packB xs[k].pack)) ∧ Below W.heap.size W w') := fun W hW => refPackMay_any xs[k].pack _ W _ (hpk.keep hW)
  have Hlast : Hid (∀ q, xs[k].path.length = q + 1 → ∃ g u, pA = some ⟨g, u, none⟩ ∧ g < w.heap.size ∧ w.cell? ⟨g, u + q, none⟩ = some (.string (lastN xs[k].path))) := fun q hq => by
    have hq' : q < xs[k].path.length := by omega
    obtain ⟨g, u, cs', rfl, _, hg, ⟨rfl, _⟩, hc⟩ := hp.elem (List.getElem?_eq_getElem hq')
    have := hc 0 _ rfl
    simp only [rStr, Nat.add_zero, Nat.mul_one] at this
    refine ⟨g, u, rfl, hg, ?_⟩
    rw [this]; unfold lastN; rw [hq, List.getD_eq_getElem?_getD, show q + 1 - 1 = q from rfl, List.getElem?_eq_getElem hq']; rfl
  clear hcell hp hpk hx hx0 hh hlk hlen
  have hI1 := hI.1
  have hI2 := hI.2
  clear hI
  generalize standsB xs xs[k] k = R at *
  generalize textB xs[k].path = tx at *
  generalize findI xs xs[k].path = f at *
  generalize aboveI xs xs[k].path = ab at *
  generalize packB xs[k].pack = pk at *
  generalize lastN xs[k].path = ls at *
  generalize xs[k].path.length = l0 at *
  generalize xs[k].pack.deps.length = l1 at *
  generalize xs[k].pack.peers.length = l2 at *
  generalize xs[k].pack.opts.length = l3 at *
  generalize xs[k].pack.name = nm at *
  generalize xs[k].pack.ver.major = y1 at *
  generalize xs[k].pack.ver.minor = y2 at *
  generalize xs[k].pack.ver.patch = y3 at *
  generalize xs[k].node = nd at *
  have hkn : (k : Int) < (n : Int) := by omega
  have hk0 : (0 : Int) ≤ (k : Int) := by omega
  clear hcx hnx
  go_enter Tryz.func54, Tryz.ntmps54
  go_wp2_with fail
  obtain ⟨w0, hw0⟩ : ∃ w0, w0 = (w.alloc (.cells #[.slice (some ⟨b, o, none⟩) n c] 33)).alloc (.cells #[.slice pA l0 pa, .string nm, .int .i64 y1, .int .i64 y2, .int .i64 y3, .slice pB l1 pb, .slice pC l2 pc, .slice pD l3 pd, .int .i64 nd] 54) := ⟨_, rfl⟩
  have hz : w.heap.size < w0.heap.size := by rw [hw0]; simp [go_sem]
  have hz1 : w.heap.size + 1 < w0.heap.size := by rw [hw0]; simp [go_sem]
  have hb0 : Below w.heap.size w w0 := by rw [hw0]; exact bal (bal (Below.refl _ _) _) _
  have a0 : w0.cell? ⟨w.heap.size, 0, none⟩ = some (.slice (some ⟨b, o, none⟩) n c) := by rw [hw0]; simp [go_sem]
  have e0 : w0.cell? ⟨w.heap.size + 1, 0, none⟩ = some (.slice pA l0 pa) := by rw [hw0]; simp [go_sem]
  have e1 : w0.cell? ⟨w.heap.size + 1, 1, none⟩ = some (.string nm) := by rw [hw0]; simp [go_sem]
  have e2 : w0.cell? ⟨w.heap.size + 1, 2, none⟩ = some (.int .i64 y1) := by rw [hw0]; simp [go_sem]
  have e3 : w0.cell? ⟨w.heap.size + 1, 3, none⟩ = some (.int .i64 y2) := by rw [hw0]; simp [go_sem]
  have e4 : w0.cell? ⟨w.heap.size + 1, 4, none⟩ = some (.int .i64 y3) := by rw [hw0]; simp [go_sem]
  have e5 : w0.cell? ⟨w.heap.size + 1, 5, none⟩ = some (.slice pB l1 pb) := by rw [hw0]; simp [go_sem]
  have e6 : w0.cell? ⟨w.heap.size + 1, 6, none⟩ = some (.slice pC l2 pc) := by rw [hw0]; simp [go_sem]
  have e7 : w0.cell? ⟨w.heap.size + 1, 7, none⟩ = some (.slice pD l3 pd) := by rw [hw0]; simp [go_sem]
  have e8 : w0.cell? ⟨w.heap.size + 1, 8, none⟩ = some (.int .i64 nd) := by rw [hw0]; simp [go_sem]
  rw [← hw0]
  have HB0 := Lib.hid hb0; clear hb0 hw0 c0 c1 c2 c3 c4 c5 c6 c7 c8
  have HS : Hid (∀ W, Below w0.heap.size w0 W → Below w.heap.size w W) := fun W hW => bot HB0.out hW
  refine (Htx.out w0 HB0.out).mono ?_
  rintro e w1 ⟨rfl, B1⟩
  have Q1 := Lib.hid B1; clear B1 Htx
  have f0 := below_cell Q1.out e0 hz1
  have f8 := below_cell Q1.out e8 hz1
  have g0 := below_cell Q1.out a0 hz
  by_cases hl0 : l0 = 0
  · have hzb : ((l0 : Int) == 0) = true := by simp [hl0]
    have He : Hid (R = false) := by unfold Hid; rw [HR.out, hl0]; rfl
    clear hl0
    go_wp2_with fail
    go_ret
    exact ⟨ret_bool He.out.symm, HS.out _ Q1.out⟩
  obtain ⟨q, rfl⟩ : ∃ q, l0 = q + 1 := ⟨l0 - 1, by omega⟩
  clear hl0
  have hqb : (((q + 1 : Nat) : Int) == 0) = false := by simp; omega
  have hqb' : (((q : Int) + 1) == 0) = false := by simp; omega
  obtain ⟨g, u, rfl, hg, hlc⟩ := Hlast.out q rfl
  by_cases htx : tx = ⟨#[]⟩
  · have htb := beq_true htx
    have htl : tx.toList = [] := by rw [htx, Go.ByteArray.toList_eq]
    have htm : tx.toList.isEmpty = true := by rw [htl]; rfl
    have He : Hid (R = false) := by unfold Hid; rw [HR.out, htx]; rfl
    clear htx
    go_wp2_with fail
    go_ret
    exact ⟨ret_bool He.out.symm, HS.out _ Q1.out⟩
  have htb := beq_false htx
  have htl : ¬ tx.toList = [] := fun h => htx (ByteArray.ext (Array.ext' (by rw [Go.ByteArray.toList_eq] at h; exact h)))
  have htm : tx.toList.isEmpty = false := by cases e : tx.toList with | nil => exact absurd e htl | cons => rfl
  have Htn := Lib.hid htx; clear htx
  by_cases hsz : tx.size ≤ 1024
  case neg =>
    have hsi : (1024 : Int) < (tx.size : Int) := by omega
    have hsj : ¬ (tx.size : Int) ≤ 1024 := by omega
    have hsk : decide ((1024 : Int) < (tx.size : Int)) = true := decide_eq_true hsi
    have He : Hid (R = false) := by unfold Hid; rw [HR.out, decide_eq_false hsz]; simp
    clear hsz
    go_wp2_with fail
    go_ret
    exact ⟨ret_bool He.out.symm, HS.out _ Q1.out⟩
  have hsi : ¬ (1024 : Int) < (tx.size : Int) := by omega
  have hsj : (tx.size : Int) ≤ 1024 := by omega
  have hsk : decide ((1024 : Int) < (tx.size : Int)) = false := decide_eq_false hsi
  by_cases hnd : 1 ≤ nd
  case neg =>
    have hni : nd < 1 := by omega
    have hnk : decide (nd < 1) = true := decide_eq_true hni
    have He : Hid (R = false) := by unfold Hid; rw [HR.out, decide_eq_false hnd]; simp
    clear hnd
    go_wp2_with fail
    go_ret
    exact ⟨ret_bool He.out.symm, HS.out _ Q1.out⟩
  have hni : ¬ nd < 1 := by omega
  have hnk : decide (nd < 1) = false := decide_eq_false hni
  have HR2 : Hid (R = (decide (f = (k : Int)) && (decide (0 ≤ ab) && (decide (ab < (k : Int)) && (pk && decide (nm = ls)))))) := by
    unfold Hid; rw [HR.out, decide_eq_true Htn.out, decide_eq_true hsz, decide_eq_true hnd]; simp
  clear HR hsz hnd Hlast Htn
  go_wp2_with fail
  refine (Hfd.out w1 (HS.out _ Q1.out)).mono ?_
  rintro e w2 ⟨rfl, B2⟩
  have Q2 := Lib.hid (bot Q1.out B2); clear B2 Hfd f0 f8 g0
  by_cases hf : f = (k : Int)
  case neg =>
    have hfb : (f != (k : Int)) = true := by simp [hf]
    have He : Hid (R = false) := by unfold Hid; rw [HR2.out, decide_eq_false hf]; simp
    clear hf
    go_wp2_with fail
    go_ret
    exact ⟨ret_bool He.out.symm, HS.out _ Q2.out⟩
  have hfb : (f != (k : Int)) = false := by simp [hf]
  have HR3 : Hid (R = (decide (0 ≤ ab) && (decide (ab < (k : Int)) && (pk && decide (nm = ls))))) := by
    unfold Hid; rw [HR2.out, decide_eq_true hf]; simp
  clear HR2 hf
  have h1 := below_cell Q2.out a0 hz
  go_wp2_with fail
  refine (Hab.out (Nat.succ_ne_zero q) w2 (HS.out _ Q2.out)).mono ?_
  rintro e w3 ⟨rfl, B3⟩
  have Q3 := Lib.hid (bot Q2.out B3); clear B3 h1 Hab
  have j1 := below_cell Q3.out e1 hz1
  have j2 := below_cell Q3.out e2 hz1
  have j3 := below_cell Q3.out e3 hz1
  have j4 := below_cell Q3.out e4 hz1
  have j5 := below_cell Q3.out e5 hz1
  have j6 := below_cell Q3.out e6 hz1
  have j7 := below_cell Q3.out e7 hz1
  go_wp2_with fail
  refine (Hpk.out w3 (HS.out _ Q3.out)).mono ?_
  rintro e w31 ⟨rfl, B3⟩
  have Q31 := Lib.hid (bot Q3.out B3); clear B3 j1 j2 j3 j4 j5 j6 j7 Q3
  have Q3 := Q31; clear Q31
  have hw1 : IntKind.i64.wrap ((q : Int) + 1 - 1) = (q : Int) := (IntWalk.i64_in _ ⟨by omega, by omega⟩).trans (by omega)
  have hw2 : IntKind.i64.wrap (q : Int) = (q : Int) := IntWalk.i64_in _ ⟨by omega, by omega⟩
  have hqc : q ≤ pa := by omega
  have i0 := below_cell Q3.out e0 hz1
  have i1 := below_cell Q3.out e1 hz1
  have i2 := below_cell Q3.out e2 hz1
  have i3 := below_cell Q3.out e3 hz1
  have i4 := below_cell Q3.out e4 hz1
  have i5 := below_cell Q3.out e5 hz1
  have i6 := below_cell Q3.out e6 hz1
  have i7 := below_cell Q3.out e7 hz1
  have i8 := below_cell (HS.out _ Q3.out) hlc hg
  have hqn : (q : Int) < ((q + 1 : Nat) : Int) := by omega
  have hqn' : (q : Int) < (q : Int) + 1 := by omega
  have hq0 : (0 : Int) ≤ (q : Int) := by omega
  clear Hpk a0 e0 e1 e2 e3 e4 e5 e6 e7 e8
  have r_i0 := cell_regrown i0
  have r_i1 := cell_regrown i1
  have r_i2 := cell_regrown i2
  have r_i3 := cell_regrown i3
  have r_i4 := cell_regrown i4
  have r_i5 := cell_regrown i5
  have r_i6 := cell_regrown i6
  have r_i7 := cell_regrown i7
  have r_i8 := cell_regrown i8
  by_cases hab : 0 ≤ ab
  case neg =>
    have He : Hid (R = false) := by unfold Hid; rw [HR3.out, decide_eq_false hab]; simp
    have hak : decide (0 ≤ ab) = false := decide_eq_false hab
    go_wp2_with fail
    refine wp_region_qb (by kernel_rfl) (by kernel_rfl) ?_
    repeat (go_big_quiet_step (first | fail))
    refine wpQuiet_nil ?_
    intro w4 B4
    go_wp2_with fail
    go_ret
    exact ⟨ret_bool He.out.symm, HS.out _ (bot Q3.out B4)⟩
  by_cases habk : ab < (k : Int)
  case neg =>
    have He : Hid (R = false) := by unfold Hid; rw [HR3.out, decide_eq_false habk]; simp
    have hak : decide (ab < (k : Int)) = false := decide_eq_false habk
    go_wp2_with fail
    refine wp_region_qb (by kernel_rfl) (by kernel_rfl) ?_
    repeat (go_big_quiet_step (first | fail))
    refine wpQuiet_nil ?_
    intro w4 B4
    go_wp2_with fail
    go_ret
    exact ⟨ret_bool He.out.symm, HS.out _ (bot Q3.out B4)⟩
  have HR4 : Hid (R = (pk && decide (nm = ls))) := by
    unfold Hid; rw [HR3.out, decide_eq_true hab, decide_eq_true habk]; simp
  clear HR3
  cases pk
  · have He : Hid (R = false) := by unfold Hid; rw [HR4.out]; rfl
    go_wp2_with fail
    refine wp_region_qb (by kernel_rfl) (by kernel_rfl) ?_
    repeat (go_big_quiet_step (first | fail))
    refine wpQuiet_nil ?_
    intro w4 B4
    go_wp2_with fail
    go_ret
    exact ⟨ret_bool He.out.symm, HS.out _ (bot Q3.out B4)⟩
  by_cases hnl : nm = ls
  · have hnb := beq_true hnl
    have He : Hid (R = true) := by unfold Hid; rw [HR4.out, decide_eq_true hnl]; rfl
    clear hnl
    go_wp2_with fail
    refine wp_region_qb (by kernel_rfl) (by kernel_rfl) ?_
    repeat (go_big_quiet_step (first | fail))
    refine wpQuiet_nil ?_
    intro w4 B4
    go_wp2_with fail
    go_ret
    exact ⟨ret_bool He.out.symm, HS.out _ (bot Q3.out B4)⟩
  · have hnb := beq_false hnl
    have He : Hid (R = false) := by unfold Hid; rw [HR4.out, decide_eq_false hnl]; rfl
    clear hnl
    go_wp2_with fail
    refine wp_region_qb (by kernel_rfl) (by kernel_rfl) ?_
    repeat (go_big_quiet_step (first | fail))
    refine wpQuiet_nil ?_
    intro w4 B4
    go_wp2_with fail
    go_ret
    exact ⟨ret_bool He.out.symm, HS.out _ (bot Q3.out B4)⟩
end Go.Proofs.YtminjjdnmpaaoaaGreatDoor
