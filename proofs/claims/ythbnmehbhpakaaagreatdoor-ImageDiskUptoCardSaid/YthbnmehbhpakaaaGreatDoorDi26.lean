/-
  image.placed, image.empty, image.within: walked.
  Arguments of a law over ranges, opened; the sentinels that the row lists, in its witness world and as the walks ask them.
  A project that came in: its bounds.
  Parts of a disk's paths: the document's Part and the program's part, walked.
  Parts of a disk's paths: the program's part, walked.
-/
import Derived.Test.YthbnmehbhpakaaaGreatDoorDi18
import Derived.Test.YthbnmehbhpakaaaGreatDoorDi17
import Derived.Test.YthbnmehbhpakaaaGreatDoorDi25
import Derived.Test.YthbnmehbhpakaaaGreatDoorDi24
import Derived.Test.YthbnmehbhpakaaaGreatDoorDi20
import Derived.Test.YthbnmehbhpakaaaGreatDoorDi02
import Derived.Test.YthbnmehbhpakaaaGreatDoorDi03
import Derived.Test.YthbnmehbhpakaaaGreatDoorDi05
import Derived.Test.YthbnmehbhpakaaaGreatDoorDi16
import Derived.ProofKit
import Derived.OpenShut
import Derived.Test.YthbnmehbhpakaaaGreatDoorDi08
import Derived.Laws.IdiomStrings
set_option autoImplicit false
set_option relaxedAutoImplicit false
set_option linter.unusedVariables false
set_option linter.unusedSimpArgs false
namespace Go.Proofs.YthbnmehbhpakaaaGreatDoor
open Go.Rows Go.RowKit Go.Shelf Go.Sort

theorem ProjV.keep {w w' : World} {S : Nat → Prop} {x : Proj} {v : Value} (h : ProjV w S x v) (hb : Below w.heap.size w w') : ProjV w' S x v := by
  obtain ⟨A0, n0, c0, A1, n1, c1, A2, n2, c2, A3, n3, c3, A4, n4, c4, A5, n5, c5, e, h0, h1, h2, h3, h4, h5⟩ := h
  exact ⟨A0, n0, c0, A1, n1, c1, A2, n2, c2, A3, n3, c3, A4, n4, c4, A5, n5, c5, e, h0.belowSize hb, h1.belowSize hb, h2.belowSize hb, h3.belowSize hb, h4.belowSize hb, h5.belowSize hb⟩
/-- the bounds of a law's project -/
def ProjZ (s : Proj) : Prop := NodesZ s.nodes ∧ s.dirs.length ≤ 1048576 ∧ ∀ d ∈ s.dirs, d.path.length * 32 ≤ 140737488355328
theorem dir_elem {w : World} {S : Nat → Prop} {l : List Dir} {A : Option Addr} {n c k : Nat} {d : Dir} (hl : SlV rDir w S l (.slice A n c)) (hd : l[k]? = some d) :
    ∃ b o pA pc B1 b1 B2 b2 B3 b3, A = some ⟨b, o, none⟩ ∧ b < w.heap.size ∧ SlV rStr w S d.path (.slice pA d.path.length pc) ∧
      PackV w S d.pack (.agg #[.string d.pack.name, .int .i64 d.pack.ver.major, .int .i64 d.pack.ver.minor, .int .i64 d.pack.ver.patch, .slice B1 d.pack.deps.length b1, .slice B2 d.pack.peers.length b2, .slice B3 d.pack.opts.length b3]) ∧ I64 d.node ∧
      w.cell? ⟨b, o + k * 9, none⟩ = some (.slice pA d.path.length pc) ∧ w.cell? ⟨b, o + k * 9 + 1, none⟩ = some (.string d.pack.name) ∧ w.cell? ⟨b, o + k * 9 + 2, none⟩ = some (.int .i64 d.pack.ver.major) ∧ w.cell? ⟨b, o + k * 9 + 3, none⟩ = some (.int .i64 d.pack.ver.minor) ∧ w.cell? ⟨b, o + k * 9 + 4, none⟩ = some (.int .i64 d.pack.ver.patch) ∧
      w.cell? ⟨b, o + k * 9 + 5, none⟩ = some (.slice B1 d.pack.deps.length b1) ∧ w.cell? ⟨b, o + k * 9 + 6, none⟩ = some (.slice B2 d.pack.peers.length b2) ∧ w.cell? ⟨b, o + k * 9 + 7, none⟩ = some (.slice B3 d.pack.opts.length b3) ∧ w.cell? ⟨b, o + k * 9 + 8, none⟩ = some (.int .i64 d.node) := by
  obtain ⟨b, o, cs, hA, _, hb, hh, hcell⟩ := hl.elem hd
  obtain ⟨s0, s1, s2, s3, hcs, hp0, hnm, _, _, _, hp1, hp2, hp3, hnd⟩ := hh
  obtain ⟨pA, pc, rfl, _, _⟩ := hp0.val
  obtain ⟨B1, b1, rfl, _, _⟩ := hp1.val
  obtain ⟨B2, b2, rfl, _, _⟩ := hp2.val
  obtain ⟨B3, b3, rfl, _, _⟩ := hp3.val
  have c0 := hcell 0 _ (by rw [hcs]; rfl)
  have c1 := hcell 1 _ (by rw [hcs]; rfl)
  have c2 := hcell 2 _ (by rw [hcs]; rfl)
  have c3 := hcell 3 _ (by rw [hcs]; rfl)
  have c4 := hcell 4 _ (by rw [hcs]; rfl)
  have c5 := hcell 5 _ (by rw [hcs]; rfl)
  have c6 := hcell 6 _ (by rw [hcs]; rfl)
  have c7 := hcell 7 _ (by rw [hcs]; rfl)
  have c8 := hcell 8 _ (by rw [hcs]; rfl)
  simp only [rDir, Nat.add_zero] at c0 c1 c2 c3 c4 c5 c6 c7 c8
  exact ⟨b, o, pA, pc, B1, b1, B2, b2, B3, b3, hA, hb, hp0, ⟨_, _, _, _, _, _, _, _, _, rfl, hnm, hp1, hp2, hp3⟩, hnd, c0, c1, c2, c3, c4, c5, c6, c7, c8⟩

set_option maxHeartbeats 6400000 in
set_option maxRecDepth 100000 in
theorem placed_any (s : Proj) (v : Value) (w : World) (S : Nat → Prop) (ht : Tab w) (hz : ProjZ s) (hv : ProjV w S s v) :
    Calls Tryz.prog 23 #[v] w fun e w' => e = .returned (.bool (placedB s)) ∧ Below w.heap.size w w' := by
  obtain ⟨A0, n0, c0, A1, n1, c1, A2, n2, c2, A3, n3, c3, A4, n4, c4, A5, n5, c5, rfl, h0, h1, h2, h3, h4, h5⟩ := hv
  obtain ⟨hz1, hz2, hz3⟩ := hz
  have hn5 := h5.n_eq
  have hc5 := h5.cap_le
  unfold maxLen at hc5
  have HMp : Hid (∀ W, Below w.heap.size w W → Calls Tryz.prog 41 #[.agg #[.slice A5 n5 c5], .agg #[.slice A4 n4 c4]] W fun e w' => (∃ v, e = .returned (.tuple #[v, .int .i64 (mapR s.dirs s.nodes).2]) ∧ SlV rInt w' (fun b => W.heap.size ≤ b) ((mapR s.dirs s.nodes).1.getD []) v) ∧ Below W.heap.size W w') := fun W hW => map_any A5 A4 n5 c5 n4 c4 s.dirs s.nodes W S S (tab_below ht hW) hz3 (h5.belowSize hW) (h4.belowSize hW)
  have HR : Hid (placedB s = (decide ((mapR s.dirs s.nodes).2 = 0) && placedGo s.dirs ((mapR s.dirs s.nodes).1.getD []) 0 (s.dirs.drop 0))) := rfl
  have HOk : Hid ((mapR s.dirs s.nodes).2 = 0 → ((mapR s.dirs s.nodes).1.getD []).length = s.dirs.length) := fun h => by obtain ⟨_, _, m, e, hm⟩ := mapR_ok h; rw [e]; exact hm
  have HD := Lib.hid h5
  have Hn := Lib.hid hn5
  have Hlen := Lib.hid hz3
  have hnz : n5 ≤ 1048576 := by omega
  clear h0 h1 h2 h3 h4 h5 hz1 hz2 hz3 hn5 ht
  generalize placedB s = R at *
  generalize s.dirs = ds at *
  generalize mapR ds s.nodes = mp at *
  generalize s.pruned = pr at *
  obtain ⟨mm, me⟩ := mp
  obtain ⟨w0, hw0⟩ : ∃ w0, w0 = w.alloc (.cells #[.slice A0 n0 c0, .slice A1 n1 c1, .slice A2 n2 c2, .slice A3 n3 c3, .slice A4 n4 c4, .slice A5 n5 c5, .bool pr] 32) := ⟨_, rfl⟩
  have HB0 : Hid (Below w.heap.size w w0) := by unfold Hid; rw [hw0]; exact bal (Below.refl _ _) _
  have HQ0 : Hid (w0.heap[w.heap.size]? = some (.cells #[.slice A0 n0 c0, .slice A1 n1 c1, .slice A2 n2 c2, .slice A3 n3 c3, .slice A4 n4 c4, .slice A5 n5 c5, .bool pr] 32 (0, 0))) := by unfold Hid; rw [hw0]; exact heap_new _ _
  have hq0 : w.heap.size < w0.heap.size := (Array.getElem?_eq_some_iff.1 HQ0.out).1
  go_enter Tryz.func23, Tryz.ntmps23
  go_wp2_with fail
  rw [← hw0]
  refine (HMp.out w0 HB0.out).mono ?_
  rintro e w1 ⟨⟨mv, rfl, hmv⟩, hb1⟩
  have HB1 := Lib.hid hb1
  have HMV := Lib.hid (hmv.more (S' := fun b => b < w1.heap.size) fun b _ h => h)
  obtain ⟨mA, mc, rfl, hml, hmm⟩ := hmv.val
  unfold maxLen at hmm
  clear hw0 hb1 hmv HMp
  by_cases hme : me = 0
  case neg =>
    have hmb : (me != 0) = true := by simpa using hme
    have Hr : Hid (R = false) := by unfold Hid; rw [HR.out, decide_eq_false hme]; rfl
    clear HR HOk
    go_wp2_with fail
    go_ret
    exact ⟨ret_bL Hr.out.symm, bot HB0.out HB1.out⟩
  have hlen0 := HOk.out hme
  have hmb : (me != 0) = false := by simpa using hme
  have HR2 : Hid (R = placedGo ds (mm.getD []) 0 (ds.drop 0)) := by unfold Hid; rw [HR.out, decide_eq_true hme]; rfl
  subst hme
  clear HR HOk
  generalize mm.getD [] = ml at *
  have hmn : ml.length = n5 := by rw [hlen0, ← Hn.out]
  rw [hmn] at HMV hml ⊢
  have Hmn := Lib.hid hmn
  clear hlen0 hmn
  have p5 : w1.cell? ⟨w.heap.size, 5, none⟩ = some (.slice A5 n5 c5) := below_cell HB1.out (cell_of_row _ _ 5 _ _ _ HQ0.out) hq0
  go_wp2_with fail
  clear p5
  go_loopw [21] (fun i wr => ∃ k : Nat, k ≤ n5 ∧ i = .int .i64 k ∧ Hid (R = placedGo ds ml k (ds.drop k)) ∧ Hid (Below w1.heap.size w1 wr)) (fun i _ => n5 - (intOf i).toNat)
  case atStart => exact ⟨0, Nat.zero_le _, rfl, HR2, Below.refl _ _⟩
  case round =>
    clear HR2
    obtain ⟨k, hk, rfl, HR, HB⟩ := hrel
    have hk0 : (0 : Int) ≤ (k : Int) := by omega
    have HBw := Lib.hid (bot HB0.out (bot HB1.out HB.out))
    by_cases hlt : k < n5
    case neg =>
      obtain rfl : n5 = k := by omega
      have hI : ¬ (n5 : Int) < (n5 : Int) := by omega
      have Hr : Hid (R = true) := by unfold Hid; rw [HR.out, placedGo_done (by rw [← Hn.out]; exact Nat.le_refl _)]
      clear HR
      go_wp2_with fail
      go_ret
      exact ⟨ret_bL Hr.out.symm, HBw.out⟩
    have hkI : (k : Int) < (n5 : Int) := by omega
    have hkl : k < ds.length := by rw [← Hn.out]; exact hlt
    obtain ⟨d, hd⟩ : ∃ d, ds[k]? = some d := ⟨_, List.getElem?_eq_getElem hkl⟩
    have h3 := HR.out
    rw [placedGo_step hd] at h3
    have HR3 := Lib.hid h3
    obtain ⟨m, hm⟩ : ∃ m, ml[k]? = some m := ⟨_, List.getElem?_eq_getElem (by rw [Hmn.out]; exact hlt)⟩
    have hmd : ml.getD k 0 = m := by rw [List.getD_eq_getElem?_getD, hm]; rfl
    obtain ⟨mb, mo, mcs, hmA, _, _, ⟨hmcs, _⟩, hmcell⟩ := (HMV.out.belowSize HB.out).elem hm
    have m0 := hmcell 0 _ (by rw [hmcs]; rfl)
    simp only [rInt, Nat.add_zero, Nat.mul_one] at m0
    subst hmA
    obtain ⟨b, o, pA, pc, B1, b1, B2, b2, B3, b3, rfl, hb, hp, hpk, hnd, d0, d1, d2, d3, d4, d5, d6, d7, d8⟩ := dir_elem HD.out hd
    have d0 := below_cell HBw.out d0 hb
    have d1 := below_cell HBw.out d1 hb
    have d2 := below_cell HBw.out d2 hb
    have d3 := below_cell HBw.out d3 hb
    have d4 := below_cell HBw.out d4 hb
    have d5 := below_cell HBw.out d5 hb
    have d6 := below_cell HBw.out d6 hb
    have d7 := below_cell HBw.out d7 hb
    have d8 := below_cell HBw.out d8 hb
    have HT2 : Hid (∀ W, Below w.heap.size w W → Calls Tryz.prog 18 #[.slice pA d.path.length pc] W fun e w' => e = .returned (.string (textB d.path)) ∧ Below W.heap.size W w') := fun W hW =>
      treeText_any pA _ pc d.path W (fun b => b < W.heap.size) (fun _ h => h) (Hlen.out d (List.mem_of_getElem? hd)) ((hp.belowSize hW).more fun _ _ h => h)
    have Hat : Hid (placedAt ds ml k d = (decide (m = d.node) && (decide (k = 0) || lessB (textB (ds.getD (k - 1) d).path) (textB d.path)))) := by unfold Hid placedAt; rw [hmd]
    have p5 : wr.cell? ⟨w.heap.size, 5, none⟩ = some (.slice (some ⟨b, o, none⟩) n5 c5) := below_cell (bot HB1.out HB.out) (cell_of_row _ _ 5 _ _ _ HQ0.out) hq0
    have hdd := hd
    clear hmcell hmcs hm h3 HR hp hpk hnd hmd
    generalize d.pack.deps.length = g1 at *
    generalize d.pack.peers.length = g2 at *
    generalize d.pack.opts.length = g3 at *
    generalize d.pack.name = nm at *
    generalize d.pack.ver.major = v1 at *
    generalize d.pack.ver.minor = v2 at *
    generalize d.pack.ver.patch = v3 at *
    generalize d.node = dn at *
    go_upto_region 7 with (fail)
    obtain ⟨w4, hw4⟩ : ∃ w4, w4 = wr.alloc (.cells #[.slice pA d.path.length pc, .string nm, .int .i64 v1, .int .i64 v2, .int .i64 v3, .slice B1 g1 b1, .slice B2 g2 b2, .slice B3 g3 b3, .int .i64 dn] 59) := ⟨_, rfl⟩
    have hq4 : w4.heap[wr.heap.size]? = some (.cells #[.slice pA d.path.length pc, .string nm, .int .i64 v1, .int .i64 v2, .int .i64 v3, .slice B1 g1 b1, .slice B2 g2 b2, .slice B3 g3 b3, .int .i64 dn] 59 (0, 0)) := by rw [hw4]; exact heap_new _ _
    have hb4 : Below wr.heap.size wr w4 := by rw [hw4]; exact bal (Below.refl _ _) _
    rw [← hw4]
    have x0 : w4.cell? ⟨wr.heap.size, 0, none⟩ = some (.slice pA d.path.length pc) := cell_of_row _ _ 0 _ _ _ hq4
    have x8 : w4.cell? ⟨wr.heap.size, 8, none⟩ = some (.int .i64 dn) := cell_of_row _ _ 8 _ _ _ hq4
    have y5 := below_cell hb4 p5 (cell_lt p5)
    have z0 := below_cell hb4 m0 (cell_lt m0)
    have HB4 := Lib.hid (bot HB.out hb4)
    have HBw4 := Lib.hid (bot HBw.out hb4)
    have Hc2 := Lib.hid (qcall (w := w4) (fun W hW => HT2.out W (bot HBw4.out hW)))
    generalize textB d.path = tx at *
    clear hw4 hq4 hb4 d0 d1 d2 d3 d4 d5 d6 d7 d8 p5 m0 HT2 HB
    by_cases hmn : m = dn
    case neg =>
      have hmb : (m != dn) = true := by simpa using hmn
      have Hr : Hid (R = false) := by unfold Hid; rw [HR3.out, Hat.out, decide_eq_false hmn]; rfl
      clear HR3 Hat hmn hdd
      have r_x0 := cell_regrown x0
      have r_x8 := cell_regrown x8
      have r_y5 := cell_regrown y5
      have r_z0 := cell_regrown z0
      go_wp2_with fail
      refine wp_region_qb (by kernel_rfl) (by kernel_rfl) ?_
      repeat (go_big_quiet_step (first | (with_reducible exact Hc2.out _ _)))
      refine wpQuiet_nil ?_
      intro w7 B7
      have HB7 := Lib.hid (bot HBw4.out B7)
      clear B7
      go_wp2_with fail
      go_ret
      exact ⟨ret_bL Hr.out.symm, HB7.out⟩
    have hmb : (m != dn) = false := by simpa using hmn
    rw [decide_eq_true hmn, Bool.true_and] at Hat
    clear hmn
    by_cases hk00 : k = 0
    · have hkz : decide (0 < k) = false := by simp [hk00]
      have Hnx : Hid (R = placedGo ds ml (k + 1) (ds.drop (k + 1))) := by unfold Hid; rw [HR3.out, Hat.out, decide_eq_true hk00]; rfl
      clear HR3 Hat hdd hk00
      have r_x0 := cell_regrown x0
      have r_x8 := cell_regrown x8
      have r_y5 := cell_regrown y5
      have r_z0 := cell_regrown z0
      go_wp2_with fail
      refine wp_region_qb (by kernel_rfl) (by kernel_rfl) ?_
      repeat (go_big_quiet_step (first | (with_reducible exact Hc2.out _ _)))
      refine wpQuiet_nil ?_
      intro w7 B7
      have HB7 := Lib.hid (bot HB4.out B7)
      clear B7
      go_wp2_with fail
      go_roundw
      case rel => exact ⟨k + 1, by omega, by go_num, Hnx, HB7⟩
      case measure => simp [intOf]; omega
    · obtain ⟨q, rfl⟩ : ∃ q, k = q + 1 := ⟨k - 1, by omega⟩
      obtain ⟨e, he⟩ : ∃ e, ds[q]? = some e := ⟨_, List.getElem?_eq_getElem (by omega)⟩
      have hpe : ds.getD (q + 1 - 1) d = e := by rw [Nat.add_sub_cancel, List.getD_eq_getElem?_getD, he]; rfl
      obtain ⟨b', o', rA, rc, _, _, _, _, _, _, hAe, hb', hp', _, _, e0, _⟩ := dir_elem HD.out he
      injection hAe with hAe
      injection hAe with hbe hoe _
      subst hbe hoe
      have e0 := below_cell HBw4.out e0 hb'
      have HT1 : Hid (∀ W, Below w.heap.size w W → Calls Tryz.prog 18 #[.slice rA e.path.length rc] W fun e' w' => e' = .returned (.string (textB e.path)) ∧ Below W.heap.size W w') := fun W hW =>
        treeText_any rA _ rc e.path W (fun b => b < W.heap.size) (fun _ h => h) (Hlen.out e (List.mem_of_getElem? he)) ((hp'.belowSize hW).more fun _ _ h => h)
      have Hc1 := Lib.hid (qcall (w := w4) (fun W hW => HT1.out W (bot HBw4.out hW)))
      rw [hpe, decide_eq_false hk00, Bool.false_or] at Hat
      have hw1 : IntKind.i64.wrap ((q : Int) + 1 - 1) = (q : Int) := (IntWalk.i64_in _ ⟨by omega, by omega⟩).trans (by omega)
      have hw2 : IntKind.i64.wrap (q : Int) = (q : Int) := IntWalk.i64_in _ ⟨by omega, by omega⟩
      have hq0' : (0 : Int) ≤ (q : Int) := by omega
      have hqn : (q : Int) < (n5 : Int) := by omega
      have hq1 : (0 : Int) < (q : Int) + 1 := by omega
      have hq2 : (q : Int) + 1 < (n5 : Int) := by omega
      have hq3 : (0 : Int) ≤ (q : Int) + 1 := by omega
      clear hk00 he hpe hp' hdd HT1
      generalize textB e.path = ty at *
      have Hls : Hid (lessB ty tx = Op.bytesLess ty.toList tx.toList) := rfl
      cases hls : Op.bytesLess ty.toList tx.toList with
      | true =>
        have Hnx : Hid (R = placedGo ds ml (q + 1 + 1) (ds.drop (q + 1 + 1))) := by unfold Hid; rw [HR3.out, Hat.out, Hls.out, hls]; rfl
        clear HR3 Hat Hls
        have r_x0 := cell_regrown x0
        have r_x8 := cell_regrown x8
        have r_y5 := cell_regrown y5
        have r_z0 := cell_regrown z0
        have r_e0 := cell_regrown e0
        go_wp2_with fail
        refine wp_region_qb (by kernel_rfl) (by kernel_rfl) ?_
        repeat (go_big_quiet_step (first | (with_reducible exact Hc1.out _ _) | (with_reducible exact Hc2.out _ _)))
        refine wpQuiet_nil ?_
        intro w7 B7
        have HB7 := Lib.hid (bot HB4.out B7)
        clear B7
        go_wp2_with fail
        go_roundw
        case rel => exact ⟨q + 1 + 1, by omega, by go_num, Hnx, HB7⟩
        case measure => simp [intOf]; omega
      | false =>
        have Hr : Hid (R = false) := by unfold Hid; rw [HR3.out, Hat.out, Hls.out, hls]; rfl
        clear HR3 Hat Hls
        have r_x0 := cell_regrown x0
        have r_x8 := cell_regrown x8
        have r_y5 := cell_regrown y5
        have r_z0 := cell_regrown z0
        have r_e0 := cell_regrown e0
        go_wp2_with fail
        refine wp_region_qb (by kernel_rfl) (by kernel_rfl) ?_
        repeat (go_big_quiet_step (first | (with_reducible exact Hc1.out _ _) | (with_reducible exact Hc2.out _ _)))
        refine wpQuiet_nil ?_
        intro w7 B7
        have HB7 := Lib.hid (bot HBw4.out B7)
        clear B7
        go_wp2_with fail
        go_ret
        exact ⟨ret_bL Hr.out.symm, HB7.out⟩

set_option maxHeartbeats 3200000 in
set_option maxRecDepth 100000 in
theorem empty_any (s : Proj) (v : Value) (w : World) (S : Nat → Prop) (hv : ProjV w S s v) :
    Calls Tryz.prog 24 #[v] w fun e w' => e = .returned (.bool (emptyQ s)) ∧ Below w.heap.size w w' := by
  obtain ⟨A0, n0, c0, A1, n1, c1, A2, n2, c2, A3, n3, c3, A4, n4, c4, A5, n5, c5, rfl, h0, h1, h2, h3, h4, h5⟩ := hv
  have hn4 := h4.n_eq
  have hn5 := h5.n_eq
  have HS : Hid (∀ W, Below w.heap.size w W → Calls Tryz.prog 72 #[.agg #[.slice A0 n0 c0, .slice A1 n1 c1, .slice A2 n2 c2, .slice A3 n3 c3], .agg #[.slice none 0 0, .slice none 0 0, .slice none 0 0, .slice none 0 0]] W fun e w' => e = .returned (.bool (eqB s.man man0)) ∧ Below W.heap.size W w') := fun W hW =>
    maniSame_any s.man man0 _ _ W S S ⟨_, _, _, _, _, _, _, _, _, _, _, _, rfl, h0.belowSize hW, h1.belowSize hW, h2.belowSize hW, h3.belowSize hW⟩ ⟨_, _, _, _, _, _, _, _, _, _, _, _, rfl, SlV.nil_ _ _ _, SlV.nil_ _ _ _, SlV.nil_ _ _ _, SlV.nil_ _ _ _⟩
  have HR : Hid (emptyQ s = (eqB s.man man0 && (decide (n4 = 1) && (decide (n5 = 1) && !s.pruned)))) := by unfold Hid emptyQ; rw [hn4, hn5]
  clear h0 h1 h2 h3 h4 h5 hn4 hn5
  generalize emptyQ s = R at *
  generalize eqB s.man man0 = q at *
  generalize s.pruned = pr at *
  obtain ⟨w0, hw0⟩ : ∃ w0, w0 = w.alloc (.cells #[.slice A0 n0 c0, .slice A1 n1 c1, .slice A2 n2 c2, .slice A3 n3 c3, .slice A4 n4 c4, .slice A5 n5 c5, .bool pr] 32) := ⟨_, rfl⟩
  have HB0 : Hid (Below w.heap.size w w0) := by unfold Hid; rw [hw0]; exact bal (Below.refl _ _) _
  have HQ0 : Hid (w0.heap[w.heap.size]? = some (.cells #[.slice A0 n0 c0, .slice A1 n1 c1, .slice A2 n2 c2, .slice A3 n3 c3, .slice A4 n4 c4, .slice A5 n5 c5, .bool pr] 32 (0, 0))) := by unfold Hid; rw [hw0]; exact heap_new _ _
  have hq0 : w.heap.size < w0.heap.size := (Array.getElem?_eq_some_iff.1 HQ0.out).1
  go_enter Tryz.func24, Tryz.ntmps24
  go_wp2_with fail
  rw [← hw0]
  refine (HS.out w0 HB0.out).mono ?_
  rintro e w1 ⟨rfl, hb1⟩
  have HB1 := Lib.hid (bot HB0.out hb1)
  have HQ1 := Lib.hid ((hb1.block _ hq0).trans HQ0.out)
  have x4 : w1.cell? ⟨w.heap.size, 4, none⟩ = some (.slice A4 n4 c4) := cell_of_row _ _ 4 _ _ _ HQ1.out
  have x5 : w1.cell? ⟨w.heap.size, 5, none⟩ = some (.slice A5 n5 c5) := cell_of_row _ _ 5 _ _ _ HQ1.out
  have x6 : w1.cell? ⟨w.heap.size, 6, none⟩ = some (.bool pr) := cell_of_row _ _ 6 _ _ _ HQ1.out
  clear hw0 hb1 HS
  cases q with
  | false =>
    have Hr : Hid (R = false) := HR.out
    go_wp2_with fail
    go_ret
    exact ⟨ret_bL Hr.out.symm, HB1.out⟩
  | true =>
  by_cases e4 : n4 = 1
  case neg =>
    have e4b : ((n4 : Int) == 1) = false := by simp; omega
    have Hr : Hid (R = false) := by unfold Hid; rw [HR.out, decide_eq_false e4]; rfl
    go_wp2_with fail
    go_ret
    exact ⟨ret_bL Hr.out.symm, HB1.out⟩
  have e4b : ((n4 : Int) == 1) = true := by simp; omega
  by_cases e5 : n5 = 1
  case neg =>
    have e5b : ((n5 : Int) == 1) = false := by simp; omega
    have Hr : Hid (R = false) := by unfold Hid; rw [HR.out, decide_eq_false e5]; simp
    clear e4
    go_wp2_with fail
    go_ret
    exact ⟨ret_bL Hr.out.symm, HB1.out⟩
  have e5b : ((n5 : Int) == 1) = true := by simp; omega
  have Hr : Hid (R = !pr) := by unfold Hid; rw [HR.out, decide_eq_true e4, decide_eq_true e5]; rfl
  clear e4 e5
  go_wp2_with fail
  go_ret
  exact ⟨ret_bL Hr.out.symm, HB1.out⟩

theorem within_root (t : ByteArray) (w : World) (ht : t.size ≤ 1000) : Calls Tryz.prog 26 #[.string ⟨#[47]⟩, .string t] w fun e w' => e = .returned (.string (⟨#[47]⟩ ++ t)) ∧ w = w' := by
  have Z : ∀ W : World, (Op.stringOp .add ⟨#[47]⟩ t).run Tryz.prog W = .ok (.string (⟨#[47]⟩ ++ t)) W := fun W => run_string_add_sum W _ _ (by have : (⟨#[47]⟩ : ByteArray).size = 1 := rfl; omega)
  have hb : (([47] : List UInt8) == [47]) = true := by decide
  go_enter Tryz.func26, Tryz.ntmps26
  go_wp2_with fail
  go_ret
  exact ⟨rfl, rfl⟩
theorem within_home (h t : ByteArray) (w : World) (hh : h.size ≤ 1000000) (ht : t.size ≤ 1000) (hne : (h.toList == [47]) = false) : Calls Tryz.prog 26 #[.string h, .string t] w fun e w' => e = .returned (.string (h ++ ⟨#[47]⟩ ++ t)) ∧ w = w' := by
  have Z : ∀ W : World, (Op.stringOp .add h ⟨#[47]⟩).run Tryz.prog W = .ok (.string (h ++ ⟨#[47]⟩)) W := fun W => run_string_add_sum W _ _ (by have : (⟨#[47]⟩ : ByteArray).size = 1 := rfl; omega)
  have Z2 : ∀ W : World, (Op.stringOp .add (h ++ ⟨#[47]⟩) t).run Tryz.prog W = .ok (.string (h ++ ⟨#[47]⟩ ++ t)) W := fun W => run_string_add_sum W _ _ (by have : (⟨#[47]⟩ : ByteArray).size = 1 := rfl; rw [ByteArray.size_append]; omega)
  go_enter Tryz.func26, Tryz.ntmps26
  go_wp2_with fail
  go_ret
  exact ⟨rfl, rfl⟩
end Go.Proofs.YthbnmehbhpakaaaGreatDoor
set_option maxRecDepth 100000
namespace Go.Proofs.YthbnmehbhpakaaaGreatDoor
open Go.ChangeShapes Go.WideShapes Go.ChangeAt Go.RowKit
set_option linter.unusedVariables false
set_option linter.unusedSimpArgs false

/-- the texts of the listed sentinels, each a block -/
def sentBlocks : List (String × DataW Unit) → List Obj
  | [] => []
  | (_, .iface _ (.ptr (.agg [.lit (.string t)]))) :: r => .cells #[.string ⟨t.toArray⟩] 347 :: sentBlocks r
  | _ :: r => sentBlocks r
/-- a heap in which the listed variables hold their data; the sentinels' texts lie from a block on -/
def layAllE (P : Program) : Nat → List (String × DataW Unit) → Array Obj → Array Obj
  | _, [], h => h
  | k, (n, .iface _ (.ptr _)) :: r, h => layAllE P (k + 1) r (match P.globalNamed n with
    | some g => h.modify g fun
      | .cells _ t fr => .cells #[.iface 345 (.pointer (some ⟨k, 0, none⟩))] t fr
      | o => o
    | none => h)
  | k, (n, d) :: r, h => layAllE P k r (match P.globalNamed n with
    | some g => h.modify g fun
      | .cells _ t fr => .cells (flat3 d).toArray t fr
      | o => o
    | none => h)
noncomputable def laidWorldE (P : Program) (l : List (String × DataW Unit)) (os : Os) : World :=
  let w0 := World.holding P os ⟨(sentBlocks l).toArray, #[], []⟩
  { w0 with heap := layAllE P (World.holding P os ⟨#[], #[], []⟩).heap.size l w0.heap }

theorem txt_arg {H : Type} {enc : TypeId × Value → H} {w : World} {v : Value} {d : DataW H} {ps : List MemPlace} {base : Nat} {r : Reach}
    (hv : Value.okWide Tryz.prog w r base 9 v) (h : DataW.Trod enc Tryz.prog w 0 (fun _ => true) true 9 v d ps) :
    ∃ x, v = .string x ∧ x.size ≤ maxLen ∧ x.size + 1 ≤ Rows.uptoBulk d := by
  obtain ⟨y, hy, hbk⟩ := opensB_arg (opensB_str Tryz.underlying9) h
  obtain ⟨n, rfl⟩ := okWide_string Tryz.underlying9 hv
  obtain ⟨h1, h2⟩ := hy
  have e : [Value.string n] = [.string y] := h1
  simp at e
  subst e
  exact ⟨_, rfl, h2, hbk⟩
end Go.Proofs.YthbnmehbhpakaaaGreatDoor
set_option autoImplicit false
set_option relaxedAutoImplicit false
set_option linter.unusedVariables false
set_option linter.unusedSimpArgs false
namespace Go.Proofs.YthbnmehbhpakaaaGreatDoor
open Go.ChangeShapes Go.WideShapes Go.ChangeAt Go.RowKit

theorem projZ_of {s : Proj} (h : bkProj s ≤ 1048576) : ProjZ s := by
  have e : bkProj s = 1 + bkMani s.man + (1 + bkL bkNode s.nodes) + (1 + bkL bkDir s.dirs) + 1 := rfl
  rw [e] at h
  have h1 : bkL bkNode s.nodes ≤ 1048576 := by omega
  have h2 : bkL bkDir s.dirs ≤ 1048576 := by omega
  have n1 := bkL_len (bk := bkNode) (l := s.nodes) fun x => by unfold bkNode; omega
  have n2 := bkL_len (bk := bkDir) (l := s.dirs) fun x => by unfold bkDir; omega
  refine ⟨⟨by omega, fun x hx => ?_⟩, by omega, fun d hd => ?_⟩
  · have k1 : bkNode x ≤ bkL bkNode s.nodes := bkL_mem (bk := bkNode) hx
    have k2 := bkL_len (bk := bkPin) (l := x.ctx) fun x => by unfold bkPin; omega
    have k3 := bkL_len (bk := bkEdge) (l := x.edges) fun x => by unfold bkEdge; omega
    have k4 : bkNode x = 1 + (x.name.size + 1) + bkVer x.ver + bkL bkPin x.ctx + bkL bkEdge x.edges := rfl
    omega
  · have k1 : bkDir d ≤ bkL bkDir s.dirs := bkL_mem (bk := bkDir) hd
    have k2 := bkL_len (bk := fun s : ByteArray => s.size + 1) (l := d.path) fun x => by omega
    have k4 : bkDir d = 1 + bkL (fun s : ByteArray => s.size + 1) d.path + bkPack d.pack + 1 := rfl
    omega
end Go.Proofs.YthbnmehbhpakaaaGreatDoor
set_option autoImplicit false
set_option relaxedAutoImplicit false
set_option linter.unusedVariables false
set_option linter.unusedSimpArgs false
namespace Go.Proofs.YthbnmehbhpakaaaGreatDoor
open Go.Rows Go.RowKit Go.Shelf

/-- may a byte stand in a part of a path -/
def pieceC (b : UInt8) : Bool := lowerC b || (decide (48 ≤ b.toNat) && decide (b.toNat ≤ 57)) || decide (b.toNat = 46) || decide (b.toNat = 45)
/-- may a text be a part of a path -/
def pieceB (s : ByteArray) : Bool := decide (1 ≤ s.size) && decide (s.size ≤ 24) && !(s.toList == [46]) && !(s.toList == [46, 46]) && s.data.toList.all pieceC
theorem pieceC_cases (b : UInt8) :
    (pieceC b = true ∧ ((97 ≤ (b.toNat : Int) ∧ (b.toNat : Int) ≤ 122) ∨ (48 ≤ (b.toNat : Int) ∧ (b.toNat : Int) ≤ 57) ∨ ((b.toNat : Int) = 45 ∧ ((b.toNat : Int) == 45) = true ∧ ((b.toNat : Int) == 46) = false) ∨ ((b.toNat : Int) = 46 ∧ ((b.toNat : Int) == 45) = false ∧ ((b.toNat : Int) == 46) = true))) ∨
    (pieceC b = false ∧ ((b.toNat : Int) == 45) = false ∧ ((b.toNat : Int) == 46) = false ∧ ((b.toNat : Int) < 48 ∨ (57 < (b.toNat : Int) ∧ (b.toNat : Int) < 97) ∨ 122 < (b.toNat : Int))) := by
  have hp : pieceC b = ((((decide (97 ≤ b.toNat) && decide (b.toNat ≤ 122)) || (decide (48 ≤ b.toNat) && decide (b.toNat ≤ 57))) || decide (b.toNat = 46)) || decide (b.toNat = 45)) := rfl
  rw [hp]
  simp only [Bool.or_eq_true, Bool.and_eq_true, decide_eq_true_eq, Bool.or_eq_false_iff, Bool.and_eq_false_iff, decide_eq_false_iff_not, beq_iff_eq, beq_eq_false_iff_ne]
  omega

end Go.Proofs.YthbnmehbhpakaaaGreatDoor
set_option autoImplicit false
set_option relaxedAutoImplicit false
set_option linter.unusedVariables false
set_option linter.unusedSimpArgs false
namespace Go.Proofs.YthbnmehbhpakaaaGreatDoor
open Go.Rows Go.RowKit Go.Shelf

/-- a text's bytes as a slice -/
theorem bytes_of (s : ByteArray) (w : World) : ∃ w1 cap, (convert 9 120 (.string s)).run Tryz.prog w = .ok (.slice (some ⟨w.heap.size, 0, none⟩) s.size cap) w1 ∧ Below w.heap.size w w1 ∧
    ∀ k (h : k < s.size), w1.cell? ⟨w.heap.size, k, none⟩ = some (.int .u8 (s[k].toNat : Int)) := by
  refine ⟨_, _, run_bytes_of_string w 9 120 5 s Tryz.underlying9 Tryz.underlying120 Tryz.underlying5, ?_, fun k h => ?_⟩
  · exact bal (Below.refl _ _).drew _
  · have := World.cell?_alloc_mark w.drew (bytesRow s (grownCap w s.size 0 5)) 5 ((bytesRow s (grownCap w s.size 0 5)).size, (bytesRow s (grownCap w s.size 0 5)).size + 1) k
    exact this.trans (bytesRow_at s _ k h)

set_option maxHeartbeats 1600000 in
set_option maxRecDepth 100000 in
theorem diskPart_any (s : ByteArray) (hs : s.size ≤ maxLen) (w : World) :
    Calls Tryz.prog 120 #[.string s] w fun e w' => e = .returned (.bool (pieceB s)) ∧ Below w.heap.size w w' := by
  unfold maxLen at hs
  by_cases h1 : s.size < 1
  · have Hn : Hid (pieceB s = false) := by unfold Hid pieceB; rw [decide_eq_false (by omega)]; rfl
    have h1I : (s.size : Int) < 1 := by omega
    clear h1
    go_enter Tryz.func120, Tryz.ntmps120
    go_wp2_with fail
    go_ret
    exact ⟨ret_bool Hn.out.symm, Below.refl _ _⟩
  have h1I : ¬ (s.size : Int) < 1 := by omega
  by_cases h2 : 24 < s.size
  · have Hn : Hid (pieceB s = false) := by unfold Hid pieceB; rw [decide_eq_false (p := s.size ≤ 24) (by omega), Bool.and_false]; rfl
    have h2I : (24 : Int) < s.size := by omega
    clear h1 h2
    go_enter Tryz.func120, Tryz.ntmps120
    go_wp2_with fail
    go_ret
    exact ⟨ret_bool Hn.out.symm, Below.refl _ _⟩
  have h2I : ¬ (24 : Int) < s.size := by omega
  cases h3 : s.toList == [46] with
  | true =>
    have Hn : Hid (pieceB s = false) := by unfold Hid pieceB; rw [h3]; simp
    clear h1 h2
    go_enter Tryz.func120, Tryz.ntmps120
    go_wp2_with fail
    go_ret
    exact ⟨ret_bool Hn.out.symm, Below.refl _ _⟩
  | false =>
  cases h4 : s.toList == [46, 46] with
  | true =>
    have Hn : Hid (pieceB s = false) := by unfold Hid pieceB; rw [h4]; simp
    clear h1 h2
    go_enter Tryz.func120, Tryz.ntmps120
    go_wp2_with fail
    go_ret
    exact ⟨ret_bool Hn.out.symm, Below.refl _ _⟩
  | false =>
  have Hp : Hid (pieceB s = s.data.toList.all pieceC) := by
    unfold Hid pieceB
    rw [h3, h4, decide_eq_true (p := 1 ≤ s.size) (by omega), decide_eq_true (p := s.size ≤ 24) (by omega)]
    rfl
  clear h1 h2
  obtain ⟨w1, cap, hconv, hb1, hcell⟩ := bytes_of s w
  have HB1 := Lib.hid hb1
  have HC := Lib.hid hcell
  clear hb1 hcell
  go_enter Tryz.func120, Tryz.ntmps120
  go_wp2_with fail
  clear h3 h4 h1I h2I hconv
  go_loop [24] (fun i => ∃ k : Nat, k ≤ s.size ∧ i = .int .i64 k ∧ Hid (s.data.toList.all pieceC = (s.data.toList.drop k).all pieceC)) (fun i => s.size - (intOf i).toNat)
  case atStart => exact ⟨0, Nat.zero_le _, rfl, rfl⟩
  case round =>
    obtain ⟨k, hk, rfl, hrl⟩ := hrel
    by_cases hlt : k < s.size
    · have hkI : (k : Int) < (s.size : Int) := by omega
      have hck := HC.out k hlt
      have hst : (s.data.toList.drop k).all pieceC = (pieceC s[k] && (s.data.toList.drop (k + 1)).all pieceC) := by rw [byte_at s k hlt, List.all_cons]
      rcases pieceC_cases s[k] with ⟨hc, hcl⟩ | ⟨hc, c1, c2, hcl⟩
      · have hok : Hid (s.data.toList.all pieceC = (s.data.toList.drop (k + 1)).all pieceC) := by
          unfold Hid; rw [hrl.out, hst, hc]; rfl
        clear hc hst hrl
        rcases hcl with ⟨q1, q2⟩ | ⟨q1, q2⟩ | ⟨q1, q2, q3⟩ | ⟨q1, q2, q3⟩
        all_goals
          go_wp2_with fail
          go_round
          case rel => exact ⟨k + 1, by omega, by go_num, hok⟩
          case measure => simp [intOf]; omega
      · have hbad : Hid (pieceB s = false) := by
          unfold Hid; rw [Hp.out, hrl.out, hst, hc]; rfl
        have e1 : ¬ (s[k].toNat : Int) = 45 := by simpa using c1
        have e2 : ¬ (s[k].toNat : Int) = 46 := by simpa using c2
        have d1 : ((s[k].toNat : Int) != 45) = true := by simpa using c1
        have d2 : ((s[k].toNat : Int) != 46) = true := by simpa using c2
        clear hc hst hrl Hp
        rcases hcl with q1 | ⟨q1, q2⟩ | q1
        all_goals
          go_wp2_with fail
          all_goals first
            | (go_ret
               exact ⟨ret_bool hbad.out.symm, HB1.out⟩)
            | (exfalso
               rename_i hx
               rcases hx with hx | hx <;> simp at hx <;> omega)
            | (exfalso
               rename_i hx
               simp at hx
               omega)
            | (exfalso
               omega)
            | trace_state
    · have hkI : ¬ (k : Int) < (s.size : Int) := by omega
      have hok : Hid (pieceB s = true) := by
        unfold Hid; rw [Hp.out, hrl.out, List.drop_eq_nil_of_le (by rw [← size_data]; omega)]; rfl
      clear hrl Hp
      go_wp2_with fail
      go_ret
      exact ⟨ret_bool hok.out.symm, HB1.out⟩
end Go.Proofs.YthbnmehbhpakaaaGreatDoor
