/-
  The document's May of a project, walked.
  The document's put: a file more, by its path: walked.
-/
import Derived.Test.YthbnmehbhpakaaaGreatDoorTl33
import Derived.Test.YthbnmehbhpakaaaGreatDoorTl39
import Derived.Test.YthbnmehbhpakaaaGreatDoorTl40
import Derived.Test.YthbnmehbhpakaaaGreatDoorTl23
import Derived.Test.YthbnmehbhpakaaaGreatDoorTl34
set_option autoImplicit false
set_option relaxedAutoImplicit false
set_option linter.unusedVariables false
set_option linter.unusedSimpArgs false
namespace Go.Proofs.YthbnmehbhpakaaaGreatDoor
open Go.Rows Go.RowKit Go.Shelf Go.Sort

set_option maxHeartbeats 6400000 in
set_option maxRecDepth 100000 in
theorem refMay15_any (s : Proj) (v : Value) (w : World) (S : Nat → Prop) (hz : ProjZ s) (hv : ProjV w S s v) :
    Calls Tryz.prog 30 #[v] w fun e w' => e = .returned (.bool (mayI s)) ∧ Below w.heap.size w w' := by
  obtain ⟨A0, n0, c0, A1, n1, c1, A2, n2, c2, A3, n3, c3, A4, n4, c4, A5, n5, c5, rfl, h0, h1, h2, h3, h4, h5⟩ := hv
  obtain ⟨hz1, hz2, hz3⟩ := hz
  have hn5 := h5.n_eq
  have hc5 := h5.cap_le
  unfold maxLen at hc5
  have HPm : Hid (∀ W, Below w.heap.size w W → Calls Tryz.prog 31 #[.agg #[.slice A0 n0 c0, .slice A1 n1 c1, .slice A2 n2 c2, .slice A3 n3 c3]] W fun e w' => e = .returned (.tuple #[.string (maniP s.man).1, .int .i64 (maniP s.man).2]) ∧ Below W.heap.size W w') := fun W hW =>
    refManiPrint_any s.man _ W S ⟨_, _, _, _, _, _, _, _, _, _, _, _, rfl, h0.belowSize hW, h1.belowSize hW, h2.belowSize hW, h3.belowSize hW⟩
  have HLk : Hid (∀ W, Below w.heap.size w W → Calls Tryz.prog 32 #[.agg #[.slice A4 n4 c4]] W fun e w' => e = .returned (.tuple #[.string (lockP s.nodes).1, .int .i64 (lockP s.nodes).2]) ∧ Below W.heap.size W w') := fun W hW => refLockPrint_any A4 n4 c4 s.nodes W S (h4.belowSize hW) hz1
  have HMp : Hid (∀ W, Below w.heap.size w W → Calls Tryz.prog 52 #[.agg #[.slice A5 n5 c5], .agg #[.slice A4 n4 c4]] W fun e w' => (∃ v, e = .returned (.tuple #[v, .int .i64 (mapR s.dirs s.nodes).2]) ∧ SlV rInt w' (fun b => W.heap.size ≤ b) ((mapR s.dirs s.nodes).1.getD []) v) ∧ Below W.heap.size W w') := fun W hW => refMap_any A5 A4 n5 c5 n4 c4 s.dirs s.nodes W S S hz3 (h5.belowSize hW) (h4.belowSize hW)
  have HR : Hid (mayI s = (maniB s.man && (lockB s.nodes && (decide ((mapR s.dirs s.nodes).2 = 0) && placedGo s.dirs ((mapR s.dirs s.nodes).1.getD []) 0 (s.dirs.drop 0))))) := rfl
  have HMq : Hid ((maniB s.man = true ∧ (maniP s.man).2 = 0) ∨ (maniB s.man = false ∧ (maniP s.man).2 = 25)) := by
    cases hb : maniB s.man with
    | true => exact .inl ⟨rfl, by unfold maniP; rw [if_pos hb]⟩
    | false => exact .inr ⟨rfl, by unfold maniP; rw [if_neg (by rw [hb]; decide)]⟩
  have HLq : Hid ((lockB s.nodes = true ∧ (lockP s.nodes).2 = 0) ∨ (lockB s.nodes = false ∧ (lockP s.nodes).2 = 33)) := by
    cases hb : lockB s.nodes with
    | true => exact .inl ⟨rfl, by unfold lockP; rw [if_pos hb]⟩
    | false => exact .inr ⟨rfl, by unfold lockP; rw [if_neg (by rw [hb]; decide)]⟩
  have HOk : Hid ((mapR s.dirs s.nodes).2 = 0 → ((mapR s.dirs s.nodes).1.getD []).length = s.dirs.length) := fun h => by obtain ⟨_, _, m, e, hm⟩ := mapR_ok h; rw [e]; exact hm
  have HD := Lib.hid h5
  have Hn := Lib.hid hn5
  have Hlen := Lib.hid hz3
  have hnz : n5 ≤ 1048576 := by omega
  clear h0 h1 h2 h3 h4 h5 hz1 hz2 hz3 hn5
  generalize mayI s = R at *
  generalize maniB s.man = mb0 at *
  generalize lockB s.nodes = lb0 at *
  generalize (maniP s.man).1 = mt at *
  generalize (maniP s.man).2 = me1 at *
  generalize (lockP s.nodes).1 = lt at *
  generalize (lockP s.nodes).2 = me2 at *
  generalize s.dirs = ds at *
  generalize mapR ds s.nodes = mp at *
  generalize s.pruned = pr at *
  obtain ⟨mm, me⟩ := mp
  obtain ⟨w0, hw0⟩ : ∃ w0, w0 = w.alloc (.cells #[.slice A0 n0 c0, .slice A1 n1 c1, .slice A2 n2 c2, .slice A3 n3 c3, .slice A4 n4 c4, .slice A5 n5 c5, .bool pr] 32) := ⟨_, rfl⟩
  have HB0 : Hid (Below w.heap.size w w0) := by unfold Hid; rw [hw0]; exact bal (Below.refl _ _) _
  have HQ0 : Hid (w0.heap[w.heap.size]? = some (.cells #[.slice A0 n0 c0, .slice A1 n1 c1, .slice A2 n2 c2, .slice A3 n3 c3, .slice A4 n4 c4, .slice A5 n5 c5, .bool pr] 32 (0, 0))) := by unfold Hid; rw [hw0]; exact heap_new _ _
  have hq0 : w.heap.size < w0.heap.size := (Array.getElem?_eq_some_iff.1 HQ0.out).1
  have Hst : Hid (∀ W, Below w0.heap.size w0 W → W.cell? ⟨w.heap.size, 4, none⟩ = some (.slice A4 n4 c4) ∧ W.cell? ⟨w.heap.size, 5, none⟩ = some (.slice A5 n5 c5)) := fun W hW => by
    have hX := (hW.block _ hq0).trans HQ0.out
    exact ⟨cell_of_row _ _ 4 _ _ _ hX, cell_of_row _ _ 5 _ _ _ hX⟩
  go_enter Tryz.func30, Tryz.ntmps30
  go_wp2_with fail
  rw [← hw0]
  refine (HPm.out w0 HB0.out).mono ?_
  rintro e wa ⟨rfl, hba⟩
  have HBa := Lib.hid hba
  obtain ⟨x4, x5⟩ := Hst.out wa hba
  clear hba hw0 HPm
  go_wp2_with fail
  refine (HLk.out wa (bot HB0.out HBa.out)).mono ?_
  rintro e wb ⟨rfl, hbb⟩
  have HBb := Lib.hid (bot HBa.out hbb)
  obtain ⟨x4, x5⟩ := Hst.out wb HBb.out
  clear hbb HLk HBa
  rcases HMq.out with ⟨rfl, rfl⟩ | ⟨rfl, rfl⟩
  case inr =>
    have Hr : Hid (R = false) := HR.out
    clear HR
    go_wp2_with fail
    go_ret
    exact ⟨ret_bL Hr.out.symm, bot HB0.out HBb.out⟩
  rcases HLq.out with ⟨rfl, rfl⟩ | ⟨rfl, rfl⟩
  case inr =>
    have Hr : Hid (R = false) := HR.out
    clear HR
    go_wp2_with fail
    go_ret
    exact ⟨ret_bL Hr.out.symm, bot HB0.out HBb.out⟩
  have HR1 : Hid (R = (decide (me = 0) && placedGo ds (mm.getD []) 0 (ds.drop 0))) := HR.out
  clear HR HMq HLq
  go_wp2_with fail
  refine (HMp.out wb (bot HB0.out HBb.out)).mono ?_
  rintro e w1 ⟨⟨mv, rfl, hmv⟩, hb1⟩
  have HB1 := Lib.hid (bot HBb.out hb1)
  have HMV := Lib.hid (hmv.more (S' := fun b => b < w1.heap.size) fun b _ h => h)
  obtain ⟨mA, mc, rfl, hml, hmm⟩ := hmv.val
  unfold maxLen at hmm
  clear hb1 hmv HMp x4 x5 HBb
  by_cases hme : me = 0
  case neg =>
    have hmb : (me != 0) = true := by simpa using hme
    have Hr : Hid (R = false) := by unfold Hid; rw [HR1.out, decide_eq_false hme]; rfl
    clear HR1 HOk
    go_wp2_with fail
    go_ret
    exact ⟨ret_bL Hr.out.symm, bot HB0.out HB1.out⟩
  have hlen0 := HOk.out hme
  have hmb : (me != 0) = false := by simpa using hme
  have HR2 : Hid (R = placedGo ds (mm.getD []) 0 (ds.drop 0)) := by unfold Hid; rw [HR1.out, decide_eq_true hme]; rfl
  subst hme
  clear HR1 HOk
  generalize mm.getD [] = ml at *
  have hmn : ml.length = n5 := by rw [hlen0, ← Hn.out]
  rw [hmn] at HMV hml ⊢
  have Hmn := Lib.hid hmn
  clear hlen0 hmn
  go_wp2_with fail
  go_loopw [8] (fun i wr => ∃ k : Nat, k ≤ n5 ∧ i = .int .i64 k ∧ Hid (R = placedGo ds ml k (ds.drop k)) ∧ Hid (Below w1.heap.size w1 wr)) (fun i _ => n5 - (intOf i).toNat)
  case atStart => exact ⟨0, Nat.zero_le _, rfl, HR2, Below.refl _ _⟩
  case round =>
    clear HR2
    obtain ⟨k, hk, rfl, HR, HB⟩ := hrel
    have hk0 : (0 : Int) ≤ (k : Int) := by omega
    have HBw := Lib.hid (bot HB0.out (bot HB1.out HB.out))
    by_cases hlt : k < n5
    case neg =>
      obtain rfl : n5 = k := by omega
      have hI : ¬ (n5 : Int) < (n5 : Int) := by omega
      have Hr : Hid (R = true) := by unfold Hid; rw [HR.out, placedGo_done (by rw [← Hn.out]; exact Nat.le_refl _)]
      clear HR
      go_wp2_with fail
      go_ret
      exact ⟨ret_bL Hr.out.symm, HBw.out⟩
    have hkI : (k : Int) < (n5 : Int) := by omega
    have hkl : k < ds.length := by rw [← Hn.out]; exact hlt
    obtain ⟨d, hd⟩ : ∃ d, ds[k]? = some d := ⟨_, List.getElem?_eq_getElem hkl⟩
    have h3 := HR.out
    rw [placedGo_step hd] at h3
    have HR3 := Lib.hid h3
    obtain ⟨m, hm⟩ : ∃ m, ml[k]? = some m := ⟨_, List.getElem?_eq_getElem (by rw [Hmn.out]; exact hlt)⟩
    have hmd : ml.getD k 0 = m := by rw [List.getD_eq_getElem?_getD, hm]; rfl
    obtain ⟨mb, mo, mcs, hmA, _, _, ⟨hmcs, _⟩, hmcell⟩ := (HMV.out.belowSize HB.out).elem hm
    have m0 := hmcell 0 _ (by rw [hmcs]; rfl)
    simp only [rInt, Nat.add_zero, Nat.mul_one] at m0
    subst hmA
    obtain ⟨b, o, pA, pc, B1, b1, B2, b2, B3, b3, rfl, hb, hp, hpk, hnd, d0, d1, d2, d3, d4, d5, d6, d7, d8⟩ := dir_elem HD.out hd
    have d0 := below_cell HBw.out d0 hb
    have d1 := below_cell HBw.out d1 hb
    have d2 := below_cell HBw.out d2 hb
    have d3 := below_cell HBw.out d3 hb
    have d4 := below_cell HBw.out d4 hb
    have d5 := below_cell HBw.out d5 hb
    have d6 := below_cell HBw.out d6 hb
    have d7 := below_cell HBw.out d7 hb
    have d8 := below_cell HBw.out d8 hb
    have HT2 : Hid (∀ W, Below w.heap.size w W → Calls Tryz.prog 34 #[.slice pA d.path.length pc] W fun e w' => e = .returned (.string (textB d.path)) ∧ Below W.heap.size W w') := fun W hW =>
      (refText_any pA _ pc d.path W S (Hlen.out d (List.mem_of_getElem? hd)) (hp.belowSize hW)).mono fun e w' ⟨he, hw⟩ => ⟨he, hw ▸ Below.refl _ _⟩
    have Hat : Hid (placedAt ds ml k d = (decide (m = d.node) && (decide (k = 0) || lessB (textB (ds.getD (k - 1) d).path) (textB d.path)))) := by unfold Hid placedAt; rw [hmd]
    have p5 : wr.cell? ⟨w.heap.size, 5, none⟩ = some (.slice (some ⟨b, o, none⟩) n5 c5) := below_cell (bot HB1.out HB.out) (cell_of_row _ _ 5 _ _ _ HQ0.out) hq0
    have hdd := hd
    clear hmcell hmcs hm h3 HR hp hpk hnd hmd
    generalize d.pack.deps.length = g1 at *
    generalize d.pack.peers.length = g2 at *
    generalize d.pack.opts.length = g3 at *
    generalize d.pack.name = nm at *
    generalize d.pack.ver.major = v1 at *
    generalize d.pack.ver.minor = v2 at *
    generalize d.pack.ver.patch = v3 at *
    generalize d.node = dn at *
    go_wp2_with fail
    obtain ⟨w4, hw4⟩ : ∃ w4, w4 = wr := ⟨_, rfl⟩
    have hb4 : Below wr.heap.size wr w4 := by rw [hw4]; exact Below.refl _ _
    have x0 : w4.cell? ⟨b, o + k * 9, none⟩ = some (.slice pA d.path.length pc) := by rw [hw4]; exact d0
    have x8 : w4.cell? ⟨b, o + k * 9 + 8, none⟩ = some (.int .i64 dn) := by rw [hw4]; exact d8
    have y5 : w4.cell? ⟨w.heap.size, 5, none⟩ = some (.slice (some ⟨b, o, none⟩) n5 c5) := by rw [hw4]; exact p5
    have z0 : w4.cell? ⟨mb, mo + k, none⟩ = some (.int .i64 m) := by rw [hw4]; exact m0
    have HB4 := Lib.hid (bot HB.out hb4)
    have HBw4 := Lib.hid (bot HBw.out hb4)
    have Hc2 := Lib.hid (qcall (w := w4) (fun W hW => HT2.out W (bot HBw4.out hW)))
    rw [← hw4]
    generalize textB d.path = tx at *
    clear hw4 hb4 d0 d1 d2 d3 d4 d5 d6 d7 d8 p5 m0 HT2 HB
    by_cases hmn : m = dn
    case neg =>
      have hmb : (m != dn) = true := by simpa using hmn
      have Hr : Hid (R = false) := by unfold Hid; rw [HR3.out, Hat.out, decide_eq_false hmn]; rfl
      clear HR3 Hat hmn hdd
      have r_x0 := cell_regrown x0
      have r_x8 := cell_regrown x8
      have r_y5 := cell_regrown y5
      have r_z0 := cell_regrown z0
      go_wp2_with fail
      refine wp_region_qb (by kernel_rfl) (by kernel_rfl) ?_
      repeat (go_big_quiet_step (first | (with_reducible exact Hc2.out _ _)))
      refine wpQuiet_nil ?_
      intro w7 B7
      have HB7 := Lib.hid (bot HBw4.out B7)
      clear B7
      go_wp2_with fail
      go_ret
      exact ⟨ret_bL Hr.out.symm, HB7.out⟩
    have hmb : (m != dn) = false := by simpa using hmn
    rw [decide_eq_true hmn, Bool.true_and] at Hat
    clear hmn
    by_cases hk00 : k = 0
    · have hkz : decide (0 < k) = false := by simp [hk00]
      have Hnx : Hid (R = placedGo ds ml (k + 1) (ds.drop (k + 1))) := by unfold Hid; rw [HR3.out, Hat.out, decide_eq_true hk00]; rfl
      clear HR3 Hat hdd hk00
      have r_x0 := cell_regrown x0
      have r_x8 := cell_regrown x8
      have r_y5 := cell_regrown y5
      have r_z0 := cell_regrown z0
      go_wp2_with fail
      refine wp_region_qb (by kernel_rfl) (by kernel_rfl) ?_
      repeat (go_big_quiet_step (first | (with_reducible exact Hc2.out _ _)))
      refine wpQuiet_nil ?_
      intro w7 B7
      have HB7 := Lib.hid (bot HB4.out B7)
      clear B7
      go_wp2_with fail
      go_roundw
      case rel => exact ⟨k + 1, by omega, by go_num, Hnx, HB7⟩
      case measure => simp [intOf]; omega
    · obtain ⟨q, rfl⟩ : ∃ q, k = q + 1 := ⟨k - 1, by omega⟩
      obtain ⟨e, he⟩ : ∃ e, ds[q]? = some e := ⟨_, List.getElem?_eq_getElem (by omega)⟩
      have hpe : ds.getD (q + 1 - 1) d = e := by rw [Nat.add_sub_cancel, List.getD_eq_getElem?_getD, he]; rfl
      obtain ⟨b', o', rA, rc, _, _, _, _, _, _, hAe, hb', hp', _, _, e0, _⟩ := dir_elem HD.out he
      injection hAe with hAe
      injection hAe with hbe hoe _
      subst hbe hoe
      have e0 := below_cell HBw4.out e0 hb'
      have HT1 : Hid (∀ W, Below w.heap.size w W → Calls Tryz.prog 34 #[.slice rA e.path.length rc] W fun e' w' => e' = .returned (.string (textB e.path)) ∧ Below W.heap.size W w') := fun W hW =>
        (refText_any rA _ rc e.path W S (Hlen.out e (List.mem_of_getElem? he)) (hp'.belowSize hW)).mono fun e w' ⟨he, hw⟩ => ⟨he, hw ▸ Below.refl _ _⟩
      have Hc1 := Lib.hid (qcall (w := w4) (fun W hW => HT1.out W (bot HBw4.out hW)))
      rw [hpe, decide_eq_false hk00, Bool.false_or] at Hat
      have hw1 : IntKind.i64.wrap ((q : Int) + 1 - 1) = (q : Int) := (IntWalk.i64_in _ ⟨by omega, by omega⟩).trans (by omega)
      have hw2 : IntKind.i64.wrap (q : Int) = (q : Int) := IntWalk.i64_in _ ⟨by omega, by omega⟩
      have hq0' : (0 : Int) ≤ (q : Int) := by omega
      have hqn : (q : Int) < (n5 : Int) := by omega
      have hq1 : (0 : Int) < (q : Int) + 1 := by omega
      have hq2 : (q : Int) + 1 < (n5 : Int) := by omega
      have hq3 : (0 : Int) ≤ (q : Int) + 1 := by omega
      clear hk00 he hpe hp' hdd HT1
      generalize textB e.path = ty at *
      have Hls : Hid (lessB ty tx = Op.bytesLess ty.toList tx.toList) := rfl
      cases hls : Op.bytesLess ty.toList tx.toList with
      | true =>
        have Hnx : Hid (R = placedGo ds ml (q + 1 + 1) (ds.drop (q + 1 + 1))) := by unfold Hid; rw [HR3.out, Hat.out, Hls.out, hls]; rfl
        clear HR3 Hat Hls
        have r_x0 := cell_regrown x0
        have r_x8 := cell_regrown x8
        have r_y5 := cell_regrown y5
        have r_z0 := cell_regrown z0
        have r_e0 := cell_regrown e0
        go_wp2_with fail
        refine wp_region_qb (by kernel_rfl) (by kernel_rfl) ?_
        repeat (go_big_quiet_step (first | (with_reducible exact Hc1.out _ _) | (with_reducible exact Hc2.out _ _)))
        refine wpQuiet_nil ?_
        intro w7 B7
        have HB7 := Lib.hid (bot HB4.out B7)
        clear B7
        go_wp2_with fail
        go_roundw
        case rel => exact ⟨q + 1 + 1, by omega, by go_num, Hnx, HB7⟩
        case measure => simp [intOf]; omega
      | false =>
        have Hr : Hid (R = false) := by unfold Hid; rw [HR3.out, Hat.out, Hls.out, hls]; rfl
        clear HR3 Hat Hls
        have r_x0 := cell_regrown x0
        have r_x8 := cell_regrown x8
        have r_y5 := cell_regrown y5
        have r_z0 := cell_regrown z0
        have r_e0 := cell_regrown e0
        go_wp2_with fail
        refine wp_region_qb (by kernel_rfl) (by kernel_rfl) ?_
        repeat (go_big_quiet_step (first | (with_reducible exact Hc1.out _ _) | (with_reducible exact Hc2.out _ _)))
        refine wpQuiet_nil ?_
        intro w7 B7
        have HB7 := Lib.hid (bot HBw4.out B7)
        clear B7
        go_wp2_with fail
        go_ret
        exact ⟨ret_bL Hr.out.symm, HB7.out⟩
end Go.Proofs.YthbnmehbhpakaaaGreatDoor
set_option autoImplicit false
set_option relaxedAutoImplicit false
set_option linter.unusedVariables false
set_option linter.unusedSimpArgs false
namespace Go.Proofs.YthbnmehbhpakaaaGreatDoor
open Go.Rows Go.RowKit Go.Shelf Go.Sort

theorem slv_dropF {w : World} {S : Nat → Prop} {l : List File} {b o n c k : Nat} (h : SlV rFile w S l (.slice (some ⟨b, o, none⟩) n c)) (hk : k ≤ n) : SlV rFile w S (l.drop k) (.slice (some ⟨b, o + k * 3, none⟩) (n - k) (c - k)) := by
  obtain ⟨A', c', h1, h2, h3, h4, h5⟩ := h
  simp only [List.cons.injEq, Value.slice.injEq, and_true] at h1
  obtain ⟨rfl, rfl, rfl⟩ := h1
  refine ⟨some ⟨b, o + k * 3, none⟩, c - k, by rw [List.length_drop], by rw [List.length_drop]; omega, by omega, (fun e => by cases e), fun hn => ?_⟩
  rw [List.length_drop] at hn
  obtain ⟨b', o', he, hs, hb, hr⟩ := h5 (by omega)
  simp only [Option.some.injEq, Addr.mk.injEq, and_true] at he
  obtain ⟨rfl, rfl⟩ := he
  refine ⟨b, o + k * 3, rfl, hs, hb, fun i x hx => ?_⟩
  rw [List.getElem?_drop] at hx
  obtain ⟨cs, q1, q2⟩ := hr (k + i) x hx
  refine ⟨cs, q1, fun j u hu => ?_⟩
  have := q2 j u hu
  rw [show o + k * 3 + i * rFile.size + j = o + (k + i) * rFile.size + j from by show o + k * 3 + i * 3 + j = o + (k + i) * 3 + j; omega]
  exact this
theorem slv_emptyF {w : World} {S : Nat → Prop} {A : Option Addr} {c : Nat} (hc : c ≤ maxLen) (hA : A = none → c = 0) : SlV rFile w S [] (.slice A 0 c) := ⟨A, c, rfl, Nat.zero_le _, hc, hA, fun h => absurd h (by simp)⟩
theorem elems_noR {w : World} {S T : Nat → Prop} : ∀ {l : List File} {xs : List Value}, Elems rFile w S l xs → Elems rFile w T l xs
  | [], _, h => h
  | x :: l, xs, h => by
    obtain ⟨cs, rest, e, hh, hr⟩ := h
    exact ⟨cs, rest, e, hh, elems_noR hr⟩
theorem own_noR {w : World} {base : Nat} {e : TypeId} {v : Value} {l : List File} {S : Nat → Prop} (h : Own rFile w base e v l S) : Own rFile w base e v l (fun _ => False) := by
  obtain ⟨h0, xs, h1, h2⟩ := h
  exact ⟨fun b hb => hb.elim, xs, h1, elems_noR h2⟩
theorem putS_take {l : List File} {f : File} {k : Nat} (hk : k ≤ l.length) (h1 : ∀ j (hj : j < l.length), j < k → lessB l[j].path f.path = true) (h2 : ∀ h : k < l.length, lessB l[k].path f.path = false) : putS l f = l.take k ++ f :: l.drop k := by
  unfold putS
  have key : ∀ (l : List File) (k : Nat), k ≤ l.length → (∀ j (hj : j < l.length), j < k → lessB l[j].path f.path = true) → (∀ h : k < l.length, lessB l[k].path f.path = false) → l.takeWhile (fun g => lessB g.path f.path) = l.take k ∧ l.dropWhile (fun g => lessB g.path f.path) = l.drop k := by
    intro l
    induction l with
    | nil => intro k hk _ _; have : k = 0 := by simpa using hk
             subst this; exact ⟨rfl, rfl⟩
    | cons g l ih =>
      intro k hk h1 h2
      cases k with
      | zero =>
        have := h2 (by simp)
        rw [List.takeWhile_cons, List.dropWhile_cons]
        simp only [List.getElem_cons_zero] at this
        rw [this]
        exact ⟨rfl, rfl⟩
      | succ k =>
        have h0 := h1 0 (by simp) (by omega)
        simp only [List.getElem_cons_zero] at h0
        obtain ⟨e1, e2⟩ := ih k (by simpa using hk) (fun j hj hjk => by have := h1 (j + 1) (by simpa using hj) (by omega); simpa using this) (fun h => by have := h2 (by simpa using h); simpa using this)
        rw [List.takeWhile_cons, List.dropWhile_cons, h0, if_pos rfl, if_pos rfl, e1, e2]
        exact ⟨rfl, rfl⟩
  obtain ⟨e1, e2⟩ := key l k hk h1 h2
  rw [e1, e2]

set_option maxHeartbeats 6400000 in
set_option maxRecDepth 100000 in
theorem put15_any (A : Option Addr) (n c : Nat) (l : List File) (f : File) (w : World) (S : Nat → Prop) (hl : SlV rFile w S l (.slice A n c)) (hnil : l = [] → A = none) (hn9 : n ≤ 1000000000) (hfp : f.path.size ≤ maxLen) (hfd : f.data.size ≤ maxLen) :
    Calls Tryz.prog 33 #[.slice A n c, .agg #[.string f.path, .bool f.dir, .string f.data]] w fun e w' => (∃ v, e = .returned v ∧ SlV rFile w' (fun b => w.heap.size ≤ b) (putS l f) v) ∧ Below w.heap.size w w' := by
  have hn := hl.n_eq
  have hcm := hl.cap_le
  unfold maxLen at hcm
  have hnc : n ≤ c := by omega
  have Hn := Lib.hid hn
  have Hnil := Lib.hid hnil
  have HLb := Lib.hid (hl.more (S' := fun b => b < w.heap.size) fun b _ h => h)
  have Hfh : Hid (∀ W, rFile.holds W (fun _ => False) f [.string f.path, .bool f.dir, .string f.data]) := fun W => ⟨rfl, hfp, hfd⟩
  obtain ⟨R, hR⟩ : ∃ R, R = putS l f := ⟨_, rfl⟩
  rw [← hR]
  have HR := Lib.hid hR
  clear hn hl hR hfp hfd hnil
  go_enter Tryz.func33, Tryz.ntmps33
  go_wp2_with fail
  obtain ⟨w0, hw0⟩ : ∃ w0, w0 = w.alloc (.cells #[.string f.path, .bool f.dir, .string f.data] 45) := ⟨_, rfl⟩
  have HZ0 : Hid (w0.heap.size = w.heap.size + 1) := by unfold Hid; rw [hw0]; simp
  have HB0 : Hid (Below w.heap.size w w0) := by unfold Hid; rw [hw0]; exact bal (Below.refl _ _) _
  have HQ0 : Hid (w0.heap[w.heap.size]? = some (.cells #[.string f.path, .bool f.dir, .string f.data] 45 (0, 0))) := by unfold Hid; rw [hw0]; exact heap_new _ _
  rw [← hw0]
  clear hw0
  go_loopw [5] (fun i wr => ∃ p : Nat, p ≤ n ∧ i = .int .i64 p ∧ Hid (∀ j (hj : j < l.length), j < p → lessB l[j].path f.path = true) ∧ Hid (Below w0.heap.size w0 wr)) (fun i _ => n - (intOf i).toNat)
  case atStart => exact ⟨0, Nat.zero_le _, rfl, fun j hj h => absurd h (Nat.not_lt_zero _), Below.refl _ _⟩
  case round =>
    obtain ⟨p, hp, rfl, Hle, HB⟩ := hrel
    have HQr : Hid (wr.heap[w.heap.size]? = some (.cells #[.string f.path, .bool f.dir, .string f.data] 45 (0, 0))) := (HB.out.block _ (by rw [HZ0.out]; omega)).trans HQ0.out
    have q0 : wr.cell? ⟨w.heap.size, 0, none⟩ = some (.string f.path) := cell_of_row wr _ 0 _ _ _ HQr.out
    have hp0 : (0 : Int) ≤ (p : Int) := by omega
    have HLr := Lib.hid (HLb.out.belowSize (bot HB0.out HB.out))
    by_cases hC : ∃ h : p < l.length, lessB l[p].path f.path = true
    · obtain ⟨hpl, hlt⟩ := hC
      have hpI : (p : Int) < (n : Int) := by have := Hn.out; omega
      obtain ⟨xb, xo, cs, hA, _, _, ⟨hcs, _, _⟩, hcell⟩ := HLr.out.elem (List.getElem?_eq_getElem hpl)
      subst hA
      have c0 := hcell 0 _ (by rw [hcs]; rfl)
      rw [show xo + p * rFile.size + 0 = xo + p * 3 from rfl] at c0
      have Hle2 : Hid (∀ j (hj : j < l.length), j < p + 1 → lessB l[j].path f.path = true) := fun j hj h => by
        by_cases e : j = p
        · subst e; exact hlt
        · exact Hle.out j hj (by omega)
      have hls : Op.bytesLess l[p].path.toList f.path.toList = true := hlt
      clear hcell hcs hlt Hle
      generalize l[p].path = xp at *
      generalize f.path = fp at *
      have r_q0 := cell_regrown q0
      have r_c0 := cell_regrown c0
      go_wp2_with fail
      go_wp2_with fail
      refine wp_region_qb (by kernel_rfl) (by kernel_rfl) ?_
      repeat (go_big_quiet_step (first | fail))
      refine wpQuiet_nil ?_
      intro w3 B3
      have HB3 := Lib.hid (bot HB.out B3)
      clear q0 c0 r_q0 r_c0 B3 HB
      go_wp2_with fail
      go_roundw
      case rel => exact ⟨p + 1, by omega, by go_num, Hle2, HB3⟩
      case measure => simp [intOf]; omega
    have Hput : Hid (putS l f = l.take p ++ f :: l.drop p) := putS_take (by rw [← Hn.out]; exact hp) (fun j hj h => Hle.out j hj h) (fun h => by
      cases hb : lessB l[p].path f.path with
      | false => rfl
      | true => exact absurd ⟨h, hb⟩ hC)
    clear Hle
    refine dite (p < n) (fun hpn => ?_) (fun hpn => ?_)
    focus
      have hpl : p < l.length := by rw [← Hn.out]; exact hpn
      have hpI : (p : Int) < (n : Int) := by omega
      have hlf : lessB l[p].path f.path = false := by
        cases hb : lessB l[p].path f.path with
        | false => rfl
        | true => exact absurd ⟨hpl, hb⟩ hC
      have hls : Op.bytesLess l[p].path.toList f.path.toList = false := hlf
      obtain ⟨xb, xo, cs, hA, _, _, ⟨hcs, _, _⟩, hcell⟩ := HLr.out.elem (List.getElem?_eq_getElem hpl)
      have c0 := hcell 0 _ (by rw [hcs]; rfl)
      rw [show xo + p * rFile.size + 0 = xo + p * 3 from rfl] at c0
      clear hcell hcs hlf hC
      generalize l[p].path = xp at *
      rw [hA]
      have r_q0 := cell_regrown q0
      have r_c0 := cell_regrown c0
      go_wp2_with fail
      go_wp2_with fail
      refine wp_region_qb (by kernel_rfl) (by kernel_rfl) ?_
      repeat (go_big_quiet_step (first | fail))
      refine wpQuiet_nil ?_
      intro w4 B4
      have Q4 := Lib.hid B4
      clear q0 c0 r_q0 r_c0 B4
      rw [← hA]
      clear hA
    rotate_left
    focus
      have hpe : p = n := by omega
      have hpI : ¬ (p : Int) < (n : Int) := by omega
      have hpd : decide ((p : Int) < (n : Int)) = false := decide_eq_false hpI
      have hpdn : decide (p < n) = false := decide_eq_false hpn
      clear hpe hC
      have r_q0 := cell_regrown q0
      go_wp2_with fail
      go_wp2_with fail
      refine wp_region_qb (by kernel_rfl) (by kernel_rfl) ?_
      repeat (go_big_quiet_step (first | fail))
      refine wpQuiet_nil ?_
      intro w4 B4
      have Q4 := Lib.hid B4
      clear q0 r_q0 B4
    all_goals
      have hpn9 : p ≤ 1000000000 := by omega
      have HLx : Hid (SlV rFile w4 (fun b => b < w.heap.size) l (.slice A n c)) := HLb.out.belowSize (bot HB0.out (bot HB.out Q4.out))
      have HQ4 : Hid (w4.heap[w.heap.size]? = some (.cells #[.string f.path, .bool f.dir, .string f.data] 45 (0, 0))) := (Q4.out.block _ (Nat.lt_of_lt_of_le (by rw [HZ0.out]; omega) HB.out.size)).trans HQr.out
      have hp0' := hp0
      have hpc : p ≤ c := by omega
      have hlt1 : (l.take p).length = p := by rw [List.length_take, ← Hn.out]; omega
      have Hlt1 := Lib.hid hlt1
      have HT1 : Hid (SlV rFile w4 (fun b => b < w4.heap.size) (l.take p) (.slice A p c)) := SlV.take (HLx.out.more (S' := fun b => b < w4.heap.size) fun b _ h => h) (by rw [← Hn.out]; exact hp)
      have hz4 : w.heap.size ≤ w4.heap.size := (bot HB0.out (bot HB.out Q4.out)).size
      clear hlt1
      go_wp2_with (at_builtin; refine wpList_extend (by rfl) _ _ _ (by rfl) elt_file Tryz.underlying33 (by rfl) (Own.nil_ rFile w4 w4.heap.size 45 (S := fun _ => False) (fun b h => h.elim)) (fun b => b < w4.heap.size) (l.take p) _ _ _ (by rfl) HT1.out (by intro b hb he; simp [Value.ownBlock] at he) (by rw [Hlt1.out]; simp [maxLen]; omega) (by rw [Hlt1.out]; simp; omega) (by simp) ?_)
      intro v5 w5 hown5 hgrow5 hat5
      have HB5 : Hid (Below w4.heap.size w4 w5) := (Below.refl _ _).grown hgrow5 (Nat.le_refl _) (fun k hk => by simp [Value.ownBlock] at hk)
      have Hown5 := Lib.hid hown5
      have hw5 := HB5.out.size
      have HQ5 : Hid (w5.heap[w.heap.size]? = some (.cells #[.string f.path, .bool f.dir, .string f.data] 45 (0, 0))) := (HB5.out.block _ (Array.getElem?_eq_some_iff.1 HQ4.out).1).trans HQ4.out
      have q0 : w5.cell? ⟨w.heap.size, 0, none⟩ = some (.string f.path) := cell_of_row w5 _ 0 _ _ _ HQ5.out
      have q1 : w5.cell? ⟨w.heap.size, 1, none⟩ = some (.bool f.dir) := cell_of_row w5 _ 1 _ _ _ HQ5.out
      have q2 : w5.cell? ⟨w.heap.size, 2, none⟩ = some (.string f.data) := cell_of_row w5 _ 2 _ _ _ HQ5.out
      clear hown5 hgrow5 hat5
      have hO5 := own_noR Hown5.out
      have HO5 := Lib.hid hO5
      have hlen5 : (l.take p).length = p := Hlt1.out
      go_wp2_with (at_builtin; refine wpList_push (by rfl) _ _ _ (by rfl) elt_file Tryz.underlying33 (by rfl) (HO5.out.alloc _) ⟨w5.heap.size, 0, none⟩ 1 [.string f.path, .bool f.dir, .string f.data] f (by rfl) (Hfh.out _) (news_of w5 #[.string f.path, .bool f.dir, .string f.data] _) (by rw [Hlt1.out]; unfold maxLen; omega) (by rw [Hlt1.out]; omega) (by simp; omega) (w5.heap.size + 1) (by simp) ?_)
      intro g9 cap9 w9 hown9 hgrow9 hat9 hlt9
      have HB9 := Lib.hid (bgrown (bal HB5.out _) hgrow9 (HO5.out.alloc _) (Nat.le_refl _))
      have HO9 := Lib.hid hown9
      have HL9 : Hid (SlV rFile w9 (fun b => b < w.heap.size) l (.slice A n c)) := HLx.out.belowSize HB9.out
      have HBall := Lib.hid (bot HB0.out (bot HB.out (bot Q4.out HB9.out)))
      have hz9 := HB9.out.size
      have Hdl : Hid ((l.drop p).length = n - p) := by unfold Hid; rw [List.length_drop, Hn.out]
      have Hl9 : Hid ((l.take p ++ [f]).length = p + 1) := by unfold Hid; rw [List.length_append, Hlt1.out]; rfl
      have hlb9 := HO9.out.lt
      have Hlb9 := Lib.hid hlb9
      clear hown9 hgrow9 hat9 hO5 q0 q1 q2 HQ5 HQ4 HLx HT1 Hown5 HO5 hlb9 hlt9 HLr HQr
      obtain ⟨TD, hTD⟩ : ∃ TD, TD = l.drop p := ⟨_, rfl⟩
      have HRd : Hid (R = l.take p ++ f :: TD) := by unfold Hid; rw [HR.out, Hput.out, hTD]
      rw [← hTD] at Hdl
      generalize l.take p = LT at *
      clear Hput
      cases A with
      | none =>
        obtain ⟨hl0, rfl⟩ := HL9.out.none_
        have hn0 : n = 0 := by rw [Hn.out, hl0]; rfl
        have hp00 : p = 0 := by omega
        have HT3 : Hid (SlV rFile w9 (fun b => b < w.heap.size) TD (.slice none 0 0)) := by unfold Hid; rw [hTD, hl0, List.drop_nil]; exact SlV.nil_ _ _ _
        subst hn0
        subst hp00
        clear hl0 hTD
        go_wp2_with (at_builtin; refine wpList_extend (by rfl) _ _ _ (by rfl) elt_file Tryz.underlying33 (by rfl) HO9.out (fun b => b < w.heap.size) TD _ _ _ (by rfl) HT3.out (by intro b hb he; have := (Hlb9.out b he).1; omega) (by rw [Hl9.out, Hdl.out]; unfold maxLen; omega) (by rw [Hl9.out, Hdl.out]; omega) hz9 ?_)
        intro v6 w6 hown6 hgrow6 hat6
        have HB6 := Lib.hid (bgrown HB9.out hgrow6 HO9.out (Nat.le_refl _))
        have hO6 := own_noR hown6
        rw [← HRd.out] at hO6
        have HS6 : Hid (SlV rFile w6 (fun b => w.heap.size ≤ b) R v6) := hO6.slvB.more fun b hb _ => Nat.le_trans hz4 hb
        have HBall6 := Lib.hid (bot HB0.out (bot HB.out (bot Q4.out HB6.out)))
        clear hown6 hgrow6 hat6 hO6 HO9 HL9 HT3
        go_wp2_with fail
        go_ret
        exact ⟨⟨_, rfl, HS6.out⟩, HBall6.out⟩
      | some ad =>
        have hlp : 0 < l.length := by
          rcases Nat.eq_zero_or_pos l.length with h | h
          · have := Hnil.out (List.eq_nil_of_length_eq_zero h)
            simp at this
          · exact h
        obtain ⟨ob, oo, ocs, hoe, _, _, _, _⟩ := HL9.out.elem (List.getElem?_eq_getElem hlp)
        simp only [Option.some.injEq] at hoe
        subst hoe
        have HTd' := slv_dropF HL9.out hp
        rw [← hTD] at HTd'
        have HTd := Lib.hid HTd'
        clear HTd'
        refine dite (c = p) (fun hcp => ?_) (fun hcp => ?_)
        · have hnp : n = p := by omega
          have HT3 : Hid (SlV rFile w9 (fun b => b < w.heap.size) TD (.slice (some ⟨ob, oo, none⟩) 0 0)) := by
            unfold Hid
            rw [hTD, List.drop_eq_nil_of_le (by rw [← Hn.out]; omega)]
            exact slv_emptyF (by unfold maxLen; omega) (fun e => by cases e)
          subst hcp
          subst hnp
          clear HTd hTD
          go_wp2_with (at_builtin; refine wpList_extend (by rfl) _ _ _ (by rfl) elt_file Tryz.underlying33 (by rfl) HO9.out (fun b => b < w.heap.size) TD _ _ _ (by rfl) HT3.out (by intro b hb he; have := (Hlb9.out b he).1; omega) (by rw [Hl9.out, Hdl.out]; unfold maxLen; omega) (by rw [Hl9.out, Hdl.out]; omega) hz9 ?_)
          intro v6 w6 hown6 hgrow6 hat6
          have HB6 := Lib.hid (bgrown HB9.out hgrow6 HO9.out (Nat.le_refl _))
          have hO6 := own_noR hown6
          rw [← HRd.out] at hO6
          have HS6 : Hid (SlV rFile w6 (fun b => w.heap.size ≤ b) R v6) := hO6.slvB.more fun b hb _ => Nat.le_trans hz4 hb
          have HBall6 := Lib.hid (bot HB0.out (bot HB.out (bot Q4.out HB6.out)))
          clear hown6 hgrow6 hat6 hO6 HO9 HL9 HT3
          go_wp2_with fail
          go_ret
          exact ⟨⟨_, rfl, HS6.out⟩, HBall6.out⟩
        · have hcp' : ¬ p = c := fun e => hcp e.symm
          have HT3 := HTd
          clear HTd hTD
          go_wp2_with (at_builtin; refine wpList_extend (by rfl) _ _ _ (by rfl) elt_file Tryz.underlying33 (by rfl) HO9.out (fun b => b < w.heap.size) TD _ _ _ (by rfl) HT3.out (by intro b hb he; have := (Hlb9.out b he).1; omega) (by rw [Hl9.out, Hdl.out]; unfold maxLen; omega) (by rw [Hl9.out, Hdl.out]; omega) hz9 ?_)
          intro v6 w6 hown6 hgrow6 hat6
          have HB6 := Lib.hid (bgrown HB9.out hgrow6 HO9.out (Nat.le_refl _))
          have hO6 := own_noR hown6
          rw [← HRd.out] at hO6
          have HS6 : Hid (SlV rFile w6 (fun b => w.heap.size ≤ b) R v6) := hO6.slvB.more fun b hb _ => Nat.le_trans hz4 hb
          have HBall6 := Lib.hid (bot HB0.out (bot HB.out (bot Q4.out HB6.out)))
          clear hown6 hgrow6 hat6 hO6 HO9 HL9 HT3
          go_wp2_with fail
          go_ret
          exact ⟨⟨_, rfl, HS6.out⟩, HBall6.out⟩
end Go.Proofs.YthbnmehbhpakaaaGreatDoor
