/-
  lock.Print, walked.
  pack.Print and the document's Print: a package's text: walked.
-/
import Derived.Test.YthbnmehbhpakaaaGreatDoorDi20
import Derived.Test.YthbnmehbhpakaaaGreatDoorDi24
import Derived.Test.YthbnmehbhpakaaaGreatDoorDi11
set_option autoImplicit false
set_option relaxedAutoImplicit false
set_option linter.unusedVariables false
set_option linter.unusedSimpArgs false
namespace Go.Proofs.YthbnmehbhpakaaaGreatDoor
open Go.Rows Go.RowKit Go.Shelf Go.Sort

/-- a text of four parts, as the operations make it -/
theorem cat4 (a b c d e : ByteArray) (h : a.size + b.size + c.size + d.size + e.size ≤ maxLen) : (∀ W : World, (Op.stringOp .add a b).run Tryz.prog W = .ok (.string (a ++ b)) W) ∧ (∀ W : World, (Op.stringOp .add (a ++ b) c).run Tryz.prog W = .ok (.string (a ++ b ++ c)) W) ∧
    (∀ W : World, (Op.stringOp .add (a ++ b ++ c) d).run Tryz.prog W = .ok (.string (a ++ b ++ c ++ d)) W) ∧ (∀ W : World, (Op.stringOp .add (a ++ b ++ c ++ d) e).run Tryz.prog W = .ok (.string (a ++ b ++ c ++ d ++ e)) W) := by
  unfold maxLen at h
  refine ⟨fun W => run_string_add_sum W _ _ ?_, fun W => run_string_add_sum W _ _ ?_, fun W => run_string_add_sum W _ _ ?_, fun W => run_string_add_sum W _ _ ?_⟩
  all_goals first | omega | (simp only [ByteArray.size_append]; omega)

set_option maxHeartbeats 8000000 in
set_option maxRecDepth 100000 in
theorem lockPrint_any (A : Option Addr) (n c : Nat) (l : List Node) (w : World) (S : Nat → Prop) (ht : Tab w) (hl : SlV rNode w S l (.slice A n c)) (hz : NodesZ l) :
    Calls Tryz.prog 22 #[.agg #[.slice A n c]] w fun e w' => e = .returned (.tuple #[.string (lockP l).1, .int .i64 (lockP l).2]) ∧ Below w.heap.size w w' := by
  have hn := hl.n_eq
  have hcn := hl.cap_le
  unfold maxLen at hcn
  have HL := Lib.hid hl
  have Hn := Lib.hid hn
  have Hz := Lib.hid hz
  have Ht := Lib.hid ht
  have hnz : n ≤ 1048576 := by have := hz.1; omega
  have HM : Hid (∀ W, Below w.heap.size w W → Calls Tryz.prog 69 #[.agg #[.slice A n c]] W fun e w' => e = .returned (.bool (lockB l)) ∧ Below W.heap.size W w') := fun W hW => lockMay_any A n c l W S (hl.belowSize hW) hz
  have HNo : Hid (lockB l = false → lockP l = (⟨#[]⟩, 33)) := fun h => by unfold lockP; rw [if_neg (by rw [h]; decide)]
  have HYes : Hid (lockB l = true → lockP l = (lockText l, 0)) := fun h => by unfold lockP; rw [if_pos h]
  have HZ : Hid (lockB l = true → n ≤ 128 ∧ ∀ x ∈ l, NodeZ x) := fun h => by have := lockB_nodes h; exact ⟨by omega, this.2⟩
  have HT : Hid (lockText l = lockW ++ nodesT 0 l) := rfl
  clear hl hn hz ht
  generalize lockP l = R at *
  obtain ⟨w0, hw0⟩ : ∃ w0, w0 = w.alloc (.cells #[.slice A n c] 27) := ⟨_, rfl⟩
  have HB0 : Hid (Below w.heap.size w w0) := by unfold Hid; rw [hw0]; exact bal (Below.refl _ _) _
  have HQ0 : Hid (w0.heap[w.heap.size]? = some (.cells #[.slice A n c] 27 (0, 0))) := by unfold Hid; rw [hw0]; exact heap_new _ _
  have hq0 : w.heap.size < w0.heap.size := (Array.getElem?_eq_some_iff.1 HQ0.out).1
  go_enter Tryz.func22, Tryz.ntmps22
  go_wp2_with fail
  rw [← hw0]
  refine (HM.out w0 HB0.out).mono ?_
  rintro e w1 ⟨rfl, hb1⟩
  have HB1 := Lib.hid (bot HB0.out hb1)
  have hq1 : w.heap.size < w1.heap.size := Nat.lt_of_lt_of_le hq0 hb1.size
  have HQ1 : Hid (w1.heap[w.heap.size]? = some (.cells #[.slice A n c] 27 (0, 0))) := (hb1.block _ hq0).trans HQ0.out
  clear hb1 hw0 HM HQ0 HB0 hq0
  cases hlb : lockB l with
  | false =>
    have hR := HNo.out hlb
    subst hR
    clear HNo HYes
    go_wp2_with fail
    go_ret2
    exact ⟨rfl, HB1.out⟩
  | true =>
  have hR := HYes.out hlb
  subst hR
  obtain ⟨hn128, hzz⟩ := HZ.out hlb
  have HZZ := Lib.hid hzz
  clear HNo HYes HZ hzz hlb
  obtain ⟨TX, hTX⟩ : ∃ TX, TX = lockText l := ⟨_, rfl⟩
  rw [← hTX] at HT
  have HTX := Lib.hid hTX
  clear hTX
  go_upto_region 4 with (fail)
  have HIs : Hid (IsB w1.heap.size w1.heap.size (Lib.strCells ⟨#[]⟩) (w1.alloc (.cells #[.pointer none, .slice none 0 0] 122))) := Lib.fresh_isBuilder _ _ _
  obtain ⟨w2, hw2⟩ : ∃ w2, w2 = w1.alloc (.cells #[.pointer none, .slice none 0 0] 122) := ⟨_, rfl⟩
  have HB2 : Hid (Below w1.heap.size w1 w2) := by unfold Hid; rw [hw2]; exact bal (Below.refl _ _) _
  rw [← hw2] at HIs
  rw [← hw2]
  have hz12 : w1.heap.size < w2.heap.size := by rw [hw2]; simp
  clear hw2
  go_wp2_with fail
  refine (writeStringT_any _ _ _ lockW _ HIs.out (by simp [Lib.strCells]; decide) HB2.out.size).mono ?_
  rintro e w3 ⟨rfl, hI3, hb3, _⟩
  have HI3 : Hid (IsB w1.heap.size w1.heap.size (Lib.strCells (lockW ++ nodesT 0 (l.take 0))) w3) := by
    unfold Hid
    rw [show lockW ++ nodesT 0 (l.take 0) = lockW from append_emptyB lockW]
    exact hI3
  have HB3 := Lib.hid (HB2.out.trans hb3)
  have hz3 : w1.heap.size < w3.heap.size := Nat.lt_of_lt_of_le hz12 hb3.size
  have p0 : w3.cell? ⟨w.heap.size, 0, none⟩ = some (.slice A n c) := below_cell HB3.out (cell_of_row _ _ 0 _ _ _ HQ1.out) hq1
  clear hI3 hb3 HIs HB2 hz12
  go_wp2_with fail
  clear p0
  go_loopw [18] (fun i wr => ∃ k : Nat, k ≤ n ∧ i = .int .i64 k ∧ Hid (IsB w1.heap.size w1.heap.size (Lib.strCells (lockW ++ nodesT 0 (l.take k))) wr) ∧ Hid (Below w1.heap.size w1 wr) ∧ w1.heap.size < wr.heap.size) (fun i _ => n - (intOf i).toNat)
  case atStart => exact ⟨0, Nat.zero_le _, rfl, HI3, HB3, hz3⟩
  case round =>
    clear HI3 HB3 hz3
    obtain ⟨k, hk, rfl, HI, HB, hzr⟩ := hrel
    have hk0 : (0 : Int) ≤ (k : Int) := by omega
    by_cases hlt : k < n
    case neg =>
      obtain rfl : k = n := by omega
      have hI : ¬ (k : Int) < (k : Int) := by omega
      have HI' : Hid (IsB w1.heap.size w1.heap.size (Lib.byteCells TX.data.toList) wr) := by
        unfold Hid
        rw [← Lib.strCells_eq, HT.out]
        have := HI.out
        rwa [List.take_of_length_le (by rw [← Hn.out]; exact Nat.le_refl _)] at this
      clear HI
      go_wp2_with fail
      refine (Tryz.Builder_String_any _ _ _ _ HI'.out HB.out.size).mono ?_
      rintro e w6 ⟨rfl, hb6⟩
      go_wp2_with fail
      go_ret2
      exact ⟨by rw [← HTX.out]; rfl, bot HB1.out (HB.out.trans hb6)⟩
    have hkI : (k : Int) < (n : Int) := by omega
    have hkl : k < l.length := by rw [← Hn.out]; exact hlt
    obtain ⟨x, hx⟩ : ∃ x, l[k]? = some x := ⟨_, List.getElem?_eq_getElem hkl⟩
    obtain ⟨z1, z2, z3, z4, z5⟩ := HZZ.out x (List.mem_of_getElem? hx)
    have HBw := Lib.hid (bot HB1.out (HB.out.mono (Nat.le_refl _)))
    obtain ⟨b, o, pA, pn, pc, eA, en, ec, rfl, hb, hnm, hp, he, hpn, hen, c0, c1, c2, c3, c4, c5⟩ := node_elem HL.out hx
    have c0 := below_cell HBw.out c0 hb
    have c1 := below_cell HBw.out c1 hb
    have c2 := below_cell HBw.out c2 hb
    have c3 := below_cell HBw.out c3 hb
    have c4 := below_cell HBw.out c4 hb
    have c5 := below_cell HBw.out c5 hb
    have Htk := Lib.hid (nodesT_take hx)
    have hzn : (nodesT 0 (l.take k)).size ≤ 10280 * 128 := by
      have h1 := nodesT_le (l := l.take k) (fun y hy => HZZ.out y (List.mem_of_mem_take hy)) 0
      rw [List.length_take] at h1
      omega
    have HT0 : Hid (lockW ++ nodesT 0 (l.take (k + 1)) = lockW ++ nodesT 0 (l.take k) ++ nodeL k x ++ withs x.ctx ++ tos x.edges) := by
      unfold Hid
      rw [Htk.out]
      unfold nodeT
      apply ByteArray.ext
      simp [ByteArray.data_append]
    have hT0z : (lockW ++ nodesT 0 (l.take k)).size ≤ 10280 * 128 + 5 := by rw [ByteArray.size_append]; have : lockW.size = 5 := rfl; omega
    have hvt : (verT x.ver).size ≤ 11 := verText_le _ _ _
    have HVP : Hid (∀ W, Below w.heap.size w W → Calls Tryz.prog 70 #[.agg #[.int .i64 x.ver.major, .int .i64 x.ver.minor, .int .i64 x.ver.patch]] W fun e w' => e = .returned (.string (verT x.ver)) ∧ Below W.heap.size W w') := fun W hW => versPrint_any _ _ _ W (tab_below Ht.out hW)
    have HCtx : Hid (∀ (q : Nat) (y : Pin), x.ctx[q]? = some y → y.name.size ≤ 16) := fun q y hy => z4 y (List.mem_of_getElem? hy)
    have HEdg : Hid (∀ (q : Nat) (y : Edge), x.edges[q]? = some y → y.label.size ≤ 16 ∧ 0 ≤ y.to ∧ y.to ≤ 999) := fun q y hy => z5 y (List.mem_of_getElem? hy)
    have HCz : Hid (∀ q, (withs (x.ctx.take q)).size ≤ 5120) := fun q => by
      have h1 := withs_le (l := x.ctx.take q) (fun y hy => z4 y (List.mem_of_mem_take hy))
      rw [List.length_take] at h1
      omega
    have HEz : Hid (∀ q, (tos (x.edges.take q)).size ≤ 5120) := fun q => by
      have h1 := tos_le (l := x.edges.take q) (fun y hy => z5 y (List.mem_of_mem_take hy))
      rw [List.length_take] at h1
      omega
    have hnlz := nodeL_le (i := k) z1
    have HNL : Hid (nodeL k x = if k = 0 then rootW else nodeW ++ x.name ++ spaceB ++ verT x.ver ++ nlB) := rfl
    have hpcn := hp.cap_le
    have hecn := he.cap_le
    unfold maxLen at hpcn hecn
    have HP := Lib.hid hp
    have HE := Lib.hid he
    have HPn := Lib.hid hpn
    have HEn := Lib.hid hen
    have HZn := Lib.hid hnlz
    have HZt := Lib.hid hT0z
    have hpn2 : pn ≤ 128 := by omega
    have hen2 : en ≤ 128 := by omega
    clear hx hp he hpn hen hzn Htk z2 z3 z4 z5 hnlz hT0z
    obtain ⟨T0, hT0⟩ : ∃ T0, T0 = lockW ++ nodesT 0 (l.take k) := ⟨_, rfl⟩
    rw [← hT0] at HT0 HZt HI
    clear hT0
    have HNode : Hid (∀ W, Below w.heap.size w W → SlV rPin W S x.ctx (.slice pA pn pc) ∧ SlV rEdge W S x.edges (.slice eA en ec)) := fun W hW => ⟨HP.out.belowSize hW, HE.out.belowSize hW⟩
    generalize x.name = nm at *
    generalize hv1 : x.ver.major = v1 at *
    generalize hv2 : x.ver.minor = v2 at *
    generalize hv3 : x.ver.patch = v3 at *
    generalize verT x.ver = vt at *
    generalize nodeL k x = nl at *
    generalize x.ctx = ctx at *
    generalize x.edges = eds at *
    clear hv1 hv2 hv3 HP HE
    go_upto_region 8 with (fail)
    obtain ⟨w4, hw4⟩ : ∃ w4, w4 = wr.alloc (.cells #[.string nm, .int .i64 v1, .int .i64 v2, .int .i64 v3, .slice pA pn pc, .slice eA en ec] 63) := ⟨_, rfl⟩
    have hq4 : w4.heap[wr.heap.size]? = some (.cells #[.string nm, .int .i64 v1, .int .i64 v2, .int .i64 v3, .slice pA pn pc, .slice eA en ec] 63 (0, 0)) := by rw [hw4]; exact heap_new _ _
    have hb4 : Below wr.heap.size wr w4 := by rw [hw4]; exact bal (Below.refl _ _) _
    rw [← hw4]
    obtain ⟨QB, hQB⟩ : ∃ QB, QB = wr.heap.size := ⟨_, rfl⟩
    have HX4 : Hid (w4.heap[QB]? = some (.cells #[.string nm, .int .i64 v1, .int .i64 v2, .int .i64 v3, .slice pA pn pc, .slice eA en ec] 63 (0, 0))) := by unfold Hid; rw [hQB]; exact hq4
    rw [← hQB]
    have hne : QB ≠ w1.heap.size := by omega
    have hQW : w1.heap.size < QB := by omega
    have HI4 := Lib.hid (HI.out.keep hb4)
    have HB4 := Lib.hid (HB.out.trans (hb4.mono HB.out.size))
    have hq5 : QB < w4.heap.size := (Array.getElem?_eq_some_iff.1 HX4.out).1
    clear hw4 hq4 hb4 HI HB HBw c0 c1 c2 c3 c4 c5 hQB
    refine dite (k = 0) (fun hk00 => ?_) (fun hk00 => ?_)
    focus
      have hkb : ((k : Int) == 0) = true := by simp [hk00]
      have HNl2 : Hid (nl = rootW) := by unfold Hid; rw [HNL.out, if_pos hk00]
      clear hk00 HNL
      go_wp2_with fail
      refine (writeStringT_any _ _ _ rootW _ HI4.out (by rw [Lib.strCells_length]; have := HZt.out; have : rootW.size = 5 := rfl; omega) HB4.out.size).mono ?_
      rintro e w8 ⟨rfl, hI8, hb8, hk8⟩
      rw [← HNl2.out] at hI8
      have HI8 : Hid (IsB w1.heap.size w1.heap.size (Lib.strCells (T0 ++ nl)) w8) := by unfold Hid; rw [strCells_append]; exact hI8
      have HX8 := Lib.hid (hk8 _ _ _ _ HX4.out (by decide) hne)
      have HB8 := Lib.hid (HB4.out.trans hb8)
      clear hI8 hb8 hk8 HNl2
    rotate_left
    focus
      have hkb : ((k : Int) == 0) = false := by simp; omega
      have HNl2 : Hid (nl = nodeW ++ nm ++ spaceB ++ vt ++ nlB) := by unfold Hid; rw [HNL.out, if_neg hk00]
      obtain ⟨Z1', Z2', Z3', Z4'⟩ := cat4 nodeW nm spaceB vt nlB (by have h1 : nodeW.size = 5 := rfl; have h2 : spaceB.size = 1 := rfl; have h3 : nlB.size = 1 := rfl; unfold maxLen; omega)
      have Z1 : ∀ W : World, (Op.stringOp .add ⟨#[110, 111, 100, 101, 32]⟩ nm).run Tryz.prog W = .ok (.string (nodeW ++ nm)) W := Z1'
      have Z2 : ∀ W : World, (Op.stringOp .add (nodeW ++ nm) ⟨#[32]⟩).run Tryz.prog W = .ok (.string (nodeW ++ nm ++ spaceB)) W := Z2'
      have Z4 : ∀ W : World, (Op.stringOp .add (nodeW ++ nm ++ spaceB ++ vt) ⟨#[10]⟩).run Tryz.prog W = .ok (.string nl) W := by rw [HNl2.out]; exact Z4'
      have Hc := Lib.hid (qcall (w := w4) (fun W hW => HVP.out W (bot HB1.out ((HB4.out.trans (hW.mono HB4.out.size)).mono (Nat.le_refl _)))))
      have x0 := cell_of_row _ _ 0 _ _ _ HX4.out
      have x1 := cell_of_row _ _ 1 _ _ _ HX4.out
      have x2 := cell_of_row _ _ 2 _ _ _ HX4.out
      have x3 := cell_of_row _ _ 3 _ _ _ HX4.out
      have x0 : w4.cell? ⟨QB, 0, none⟩ = some (.string nm) := x0
      have x1 : w4.cell? ⟨QB, 1, none⟩ = some (.int .i64 v1) := x1
      have x2 : w4.cell? ⟨QB, 2, none⟩ = some (.int .i64 v2) := x2
      have x3 : w4.cell? ⟨QB, 3, none⟩ = some (.int .i64 v3) := x3
      clear hk00 HNL HNl2 Z1' Z2' Z4'
      have r_x0 := cell_regrown x0
      have r_x1 := cell_regrown x1
      have r_x2 := cell_regrown x2
      have r_x3 := cell_regrown x3
      go_wp2_with fail
      refine wp_region_qb_tail 9 (by kernel_rfl) (by kernel_rfl) ?_
      simp only [List.take_succ_cons, List.take_zero, List.drop_succ_cons, List.drop_zero]
      repeat (go_big_quiet_step (first | (with_reducible exact Hc.out _ _)))
      refine wpQuiet_nil ?_
      intro w7 B7
      have HI7 := Lib.hid (HI4.out.keep B7)
      have HX7 := Lib.hid ((B7.block _ hq5).trans HX4.out)
      have HB7 := Lib.hid (HB4.out.trans (B7.mono HB4.out.size))
      clear Z1 Z2 Z3' Z4 B7 Hc r_x0 r_x1 r_x2 r_x3 x0 x1 x2 x3
      go_wp2_with fail
      refine (writeStringT_any _ _ _ nl _ HI7.out (by rw [Lib.strCells_length]; have := HZt.out; have := HZn.out; omega) HB7.out.size).mono ?_
      rintro e w8 ⟨rfl, hI8, hb8, hk8⟩
      have HI8 : Hid (IsB w1.heap.size w1.heap.size (Lib.strCells (T0 ++ nl)) w8) := by unfold Hid; rw [strCells_append]; exact hI8
      have HX8 := Lib.hid (hk8 _ _ _ _ HX7.out (by decide) hne)
      have HB8 := Lib.hid (HB7.out.trans hb8)
      clear hI8 hb8 hk8 HI7 HX7 HB7
    all_goals
      have x4 : w8.cell? ⟨QB, 4, none⟩ = some (.slice pA pn pc) := cell_of_row _ _ 4 _ _ _ HX8.out
      have HCzA : Hid ((withs ctx).size ≤ 5120) := by
        have := HCz.out pn
        rwa [List.take_of_length_le (by rw [← HPn.out]; exact Nat.le_refl _)] at this
      clear HI4 HX4 HB4 hq5
      go_wp2_with fail
      clear x4
      go_loopw [39] (fun i wi => ∃ q : Nat, q ≤ pn ∧ i = .int .i64 q ∧ Hid (IsB w1.heap.size w1.heap.size (Lib.strCells (T0 ++ nl ++ withs (ctx.take q))) wi) ∧ Hid (wi.heap[QB]? = some (.cells #[.string nm, .int .i64 v1, .int .i64 v2, .int .i64 v3, .slice pA pn pc, .slice eA en ec] 63 (0, 0))) ∧ Hid (Below w1.heap.size w1 wi)) (fun i _ => pn - (intOf i).toNat)
      case atStart => exact ⟨0, Nat.zero_le _, rfl, by unfold Hid; rw [show T0 ++ nl ++ withs (ctx.take 0) = T0 ++ nl from append_emptyB _]; exact HI8.out, HX8, HB8⟩
      case round =>
        clear HI8 HX8 HB8
        obtain ⟨q, hq, rfl, HI, HX, HB⟩ := hrel
        have hq0 : (0 : Int) ≤ (q : Int) := by omega
        have HBw := Lib.hid (bot HB1.out (HB.out.mono (Nat.le_refl _)))
        have hqb : QB < wr.heap.size := (Array.getElem?_eq_some_iff.1 HX.out).1
        by_cases hqt : q < pn
        case neg =>
          obtain rfl : pn = q := by omega
          have hI : ¬ (pn : Int) < (pn : Int) := by omega
          have HI9 : Hid (IsB w1.heap.size w1.heap.size (Lib.strCells (T0 ++ nl ++ withs ctx)) wr) := by
            have := HI.out
            rw [List.take_of_length_le (by rw [← HPn.out]; exact Nat.le_refl _)] at this
            exact this
          have HX9 := HX
          have HB9 := HB
          have x5 : wr.cell? ⟨QB, 5, none⟩ = some (.slice eA en ec) := cell_of_row _ _ 5 _ _ _ HX.out
          clear HI HBw
          obtain ⟨wo, rfl⟩ : ∃ wo : World, wo = wr := ⟨_, rfl⟩
          go_wp2_with fail
          clear x5 hqb
          go_loopw [57] (fun i wi => ∃ j : Nat, j ≤ en ∧ i = .int .i64 j ∧ Hid (IsB w1.heap.size w1.heap.size (Lib.strCells (T0 ++ nl ++ withs ctx ++ tos (eds.take j))) wi) ∧ Hid (wi.heap[QB]? = some (.cells #[.string nm, .int .i64 v1, .int .i64 v2, .int .i64 v3, .slice pA pn pc, .slice eA en ec] 63 (0, 0))) ∧ Hid (Below w1.heap.size w1 wi)) (fun i _ => en - (intOf i).toNat)
          case atStart => exact ⟨0, Nat.zero_le _, rfl, by unfold Hid; rw [show T0 ++ nl ++ withs ctx ++ tos (eds.take 0) = T0 ++ nl ++ withs ctx from append_emptyB _]; exact HI9.out, HX9, HB9⟩
          case round =>
            clear HI9 HX9 HB9
            obtain ⟨j, hj, rfl, HI, HX, HB⟩ := hrel
            have hj0 : (0 : Int) ≤ (j : Int) := by omega
            have HBw := Lib.hid (bot HB1.out (HB.out.mono (Nat.le_refl _)))
            have hqb : QB < wr.heap.size := (Array.getElem?_eq_some_iff.1 HX.out).1
            by_cases hjt : j < en
            case neg =>
              obtain rfl : en = j := by omega
              have hI : ¬ (en : Int) < (en : Int) := by omega
              have HIe : Hid (IsB w1.heap.size w1.heap.size (Lib.strCells (lockW ++ nodesT 0 (l.take (k + 1)))) wr) := by
                have := HI.out
                rw [List.take_of_length_le (by rw [← HEn.out]; exact Nat.le_refl _), ← HT0.out] at this
                exact this
              have hzz : w1.heap.size < wr.heap.size := by omega
              clear HI HT0
              go_wp2_with fail
              go_roundw
              case rel => exact ⟨k + 1, by omega, by go_num, HIe, HB, hzz⟩
              case measure => simp [intOf]; omega
            have hjI : (j : Int) < (en : Int) := by omega
            have hjl : j < eds.length := by rw [← HEn.out]; exact hjt
            obtain ⟨y, hy⟩ : ∃ y, eds[j]? = some y := ⟨_, List.getElem?_eq_getElem hjl⟩
            obtain ⟨hyz, hy0, hy9⟩ := HEdg.out j y hy
            have Htk := Lib.hid (tos_take hy)
            have hvz := itoaB_small hy0 hy9
            have Hln : Hid (toL y = toW ++ y.label ++ spaceB ++ itoaB y.to ++ nlB) := rfl
            have hlz := toL_le hyz hy0 hy9
            obtain ⟨b2, o2, cs2, hA2, _, _, ⟨hcs2, _⟩, hcell2⟩ := (HNode.out wr HBw.out).2.elem hy
            have e0 := hcell2 0 _ (by rw [hcs2]; rfl)
            have e1 := hcell2 1 _ (by rw [hcs2]; rfl)
            simp only [rEdge, Nat.add_zero] at e0 e1
            have HVq : Hid (∀ W, Below w.heap.size w W → Calls Tryz.prog 71 #[.int .i64 y.to] W fun e w' => e = .returned (.string (itoaB y.to)) ∧ Below W.heap.size W w') := fun W hW => itoa_any _ (by unfold I64; omega) W (tab_below Ht.out hW)
            subst hA2
            clear hcell2 hcs2 hy
            generalize toL y = line at *
            generalize y.label = ym at *
            generalize itoaB y.to = yv at *
            generalize y.to = yt at *
            obtain ⟨Z1', Z2', Z3', Z4'⟩ := cat4 toW ym spaceB yv nlB (by have h1 : toW.size = 3 := rfl; have h2 : spaceB.size = 1 := rfl; have h3 : nlB.size = 1 := rfl; unfold maxLen; omega)
            have Z1 : ∀ W : World, (Op.stringOp .add ⟨#[116, 111, 32]⟩ ym).run Tryz.prog W = .ok (.string (toW ++ ym)) W := Z1'
            have Z2 : ∀ W : World, (Op.stringOp .add (toW ++ ym) ⟨#[32]⟩).run Tryz.prog W = .ok (.string (toW ++ ym ++ spaceB)) W := Z2'
            have Z4 : ∀ W : World, (Op.stringOp .add (toW ++ ym ++ spaceB ++ yv) ⟨#[10]⟩).run Tryz.prog W = .ok (.string line) W := by rw [Hln.out]; exact Z4'
            clear Z1' Z2' Z4' Hln hyz hvz
            have HLz := Lib.hid hlz
            clear hlz
            go_upto_region 19 with (fail)
            obtain ⟨w5, hw5⟩ : ∃ w5, w5 = wr.alloc (.cells #[.string ym, .int .i64 yt] 65) := ⟨_, rfl⟩
            have hr5 : w5.heap[wr.heap.size]? = some (.cells #[.string ym, .int .i64 yt] 65 (0, 0)) := by rw [hw5]; exact heap_new _ _
            have hb5 : Below wr.heap.size wr w5 := by rw [hw5]; exact bal (Below.refl _ _) _
            rw [← hw5]
            have HI5 := Lib.hid (HI.out.keep hb5)
            have HX5 := Lib.hid ((hb5.block _ hqb).trans HX.out)
            have HB5 := Lib.hid (HB.out.trans (hb5.mono HB.out.size))
            have Hc := Lib.hid (qcall (w := w5) (fun W hW => HVq.out W (bot HBw.out (bot hb5 hW))))
            have hqb5 : QB < w5.heap.size := Nat.lt_of_lt_of_le hqb hb5.size
            have f0 : w5.cell? ⟨wr.heap.size, 0, none⟩ = some (.string ym) := cell_of_row _ _ 0 _ _ _ hr5
            have f1 : w5.cell? ⟨wr.heap.size, 1, none⟩ = some (.int .i64 yt) := cell_of_row _ _ 1 _ _ _ hr5
            clear hw5 hr5 hb5 HI HX HB HBw hqb HVq e0 e1
            have r_f0 := cell_regrown f0
            have r_f1 := cell_regrown f1
            go_wp2_with fail
            refine wp_region_qb_tail 9 (by kernel_rfl) (by kernel_rfl) ?_
            simp only [List.take_succ_cons, List.take_zero, List.drop_succ_cons, List.drop_zero]
            repeat (go_big_quiet_step (first | (with_reducible exact Hc.out _ _)))
            refine wpQuiet_nil ?_
            intro w7 B7
            have HI7 := Lib.hid (HI5.out.keep B7)
            have HX7 := Lib.hid ((B7.block _ hqb5).trans HX5.out)
            have HB7 := Lib.hid (HB5.out.trans (B7.mono HB5.out.size))
            clear Z1 Z2 Z3' Z4 B7 Hc r_f0 r_f1 f0 f1 HI5 HX5 HB5
            go_wp2_with fail
            refine (writeStringT_any _ _ _ line _ HI7.out (by rw [Lib.strCells_length]; simp only [ByteArray.size_append]; have := HZt.out; have := HZn.out; have := HCzA.out; have := HLz.out; have := HEz.out j; omega) HB7.out.size).mono ?_
            rintro e w6 ⟨rfl, hI6, hb6, hk6⟩
            have HI6 : Hid (IsB w1.heap.size w1.heap.size (Lib.strCells (T0 ++ nl ++ withs ctx ++ tos (eds.take (j + 1)))) w6) := by
              unfold Hid
              rw [Htk.out, ← ByteArray.append_assoc, strCells_append]
              exact hI6
            have HX6 := Lib.hid (hk6 _ _ _ _ HX7.out (by decide) hne)
            have HB6 := Lib.hid (HB7.out.trans hb6)
            clear hI6 hb6 hk6 HI7 HX7 HB7
            go_wp2_with fail
            go_roundw
            case rel => exact ⟨j + 1, by omega, by go_num, HI6, HX6, HB6⟩
            case measure => simp [intOf]; omega
        have hqI : (q : Int) < (pn : Int) := by omega
        have hql : q < ctx.length := by rw [← HPn.out]; exact hqt
        obtain ⟨y, hy⟩ : ∃ y, ctx[q]? = some y := ⟨_, List.getElem?_eq_getElem hql⟩
        have hyz := HCtx.out q y hy
        have Htk := Lib.hid (withs_take hy)
        have hvz : (verT y.ver).size ≤ 11 := verText_le _ _ _
        have Hln : Hid (withL y = withW ++ y.name ++ spaceB ++ verT y.ver ++ nlB) := rfl
        have hlz := withL_le hyz
        obtain ⟨b2, o2, cs2, hA2, _, _, ⟨hcs2, _⟩, hcell2⟩ := (HNode.out wr HBw.out).1.elem hy
        have e0 := hcell2 0 _ (by rw [hcs2]; rfl)
        have e1 := hcell2 1 _ (by rw [hcs2]; rfl)
        have e2 := hcell2 2 _ (by rw [hcs2]; rfl)
        have e3 := hcell2 3 _ (by rw [hcs2]; rfl)
        simp only [rPin, Nat.add_zero] at e0 e1 e2 e3
        have HVq : Hid (∀ W, Below w.heap.size w W → Calls Tryz.prog 70 #[.agg #[.int .i64 y.ver.major, .int .i64 y.ver.minor, .int .i64 y.ver.patch]] W fun e w' => e = .returned (.string (verT y.ver)) ∧ Below W.heap.size W w') := fun W hW => versPrint_any _ _ _ W (tab_below Ht.out hW)
        subst hA2
        clear hcell2 hcs2 hy
        generalize withL y = line at *
        generalize y.name = ym at *
        generalize y.ver.major = y1 at *
        generalize y.ver.minor = y2 at *
        generalize y.ver.patch = y3 at *
        generalize verT y.ver = yv at *
        obtain ⟨Z1', Z2', Z3', Z4'⟩ := cat4 withW ym spaceB yv nlB (by have h1 : withW.size = 5 := rfl; have h2 : spaceB.size = 1 := rfl; have h3 : nlB.size = 1 := rfl; unfold maxLen; omega)
        have Z1 : ∀ W : World, (Op.stringOp .add ⟨#[119, 105, 116, 104, 32]⟩ ym).run Tryz.prog W = .ok (.string (withW ++ ym)) W := Z1'
        have Z2 : ∀ W : World, (Op.stringOp .add (withW ++ ym) ⟨#[32]⟩).run Tryz.prog W = .ok (.string (withW ++ ym ++ spaceB)) W := Z2'
        have Z4 : ∀ W : World, (Op.stringOp .add (withW ++ ym ++ spaceB ++ yv) ⟨#[10]⟩).run Tryz.prog W = .ok (.string line) W := by rw [Hln.out]; exact Z4'
        clear Z1' Z2' Z4' Hln hyz hvz
        have HLz := Lib.hid hlz
        clear hlz
        go_upto_region 14 with (fail)
        obtain ⟨w5, hw5⟩ : ∃ w5, w5 = wr.alloc (.cells #[.string ym, .int .i64 y1, .int .i64 y2, .int .i64 y3] 107) := ⟨_, rfl⟩
        have hr5 : w5.heap[wr.heap.size]? = some (.cells #[.string ym, .int .i64 y1, .int .i64 y2, .int .i64 y3] 107 (0, 0)) := by rw [hw5]; exact heap_new _ _
        have hb5 : Below wr.heap.size wr w5 := by rw [hw5]; exact bal (Below.refl _ _) _
        rw [← hw5]
        have HI5 := Lib.hid (HI.out.keep hb5)
        have HX5 := Lib.hid ((hb5.block _ hqb).trans HX.out)
        have HB5 := Lib.hid (HB.out.trans (hb5.mono HB.out.size))
        have Hc := Lib.hid (qcall (w := w5) (fun W hW => HVq.out W (bot HBw.out (bot hb5 hW))))
        have hqb5 : QB < w5.heap.size := Nat.lt_of_lt_of_le hqb hb5.size
        have f0 : w5.cell? ⟨wr.heap.size, 0, none⟩ = some (.string ym) := cell_of_row _ _ 0 _ _ _ hr5
        have f1 : w5.cell? ⟨wr.heap.size, 1, none⟩ = some (.int .i64 y1) := cell_of_row _ _ 1 _ _ _ hr5
        have f2 : w5.cell? ⟨wr.heap.size, 2, none⟩ = some (.int .i64 y2) := cell_of_row _ _ 2 _ _ _ hr5
        have f3 : w5.cell? ⟨wr.heap.size, 3, none⟩ = some (.int .i64 y3) := cell_of_row _ _ 3 _ _ _ hr5
        clear hw5 hr5 hb5 HI HX HB HBw hqb HVq e0 e1 e2 e3
        have r_f0 := cell_regrown f0
        have r_f1 := cell_regrown f1
        have r_f2 := cell_regrown f2
        have r_f3 := cell_regrown f3
        go_wp2_with fail
        refine wp_region_qb_tail 9 (by kernel_rfl) (by kernel_rfl) ?_
        simp only [List.take_succ_cons, List.take_zero, List.drop_succ_cons, List.drop_zero]
        repeat (go_big_quiet_step (first | (with_reducible exact Hc.out _ _)))
        refine wpQuiet_nil ?_
        intro w7 B7
        have HI7 := Lib.hid (HI5.out.keep B7)
        have HX7 := Lib.hid ((B7.block _ hqb5).trans HX5.out)
        have HB7 := Lib.hid (HB5.out.trans (B7.mono HB5.out.size))
        clear Z1 Z2 Z3' Z4 B7 Hc r_f0 r_f1 r_f2 r_f3 f0 f1 f2 f3 HI5 HX5 HB5
        go_wp2_with fail
        refine (writeStringT_any _ _ _ line _ HI7.out (by rw [Lib.strCells_length]; simp only [ByteArray.size_append]; have := HZt.out; have := HZn.out; have := HCzA.out; have := HLz.out; have := HCz.out q; omega) HB7.out.size).mono ?_
        rintro e w6 ⟨rfl, hI6, hb6, hk6⟩
        have HI6 : Hid (IsB w1.heap.size w1.heap.size (Lib.strCells (T0 ++ nl ++ withs (ctx.take (q + 1)))) w6) := by
          unfold Hid
          rw [Htk.out, ← ByteArray.append_assoc, strCells_append]
          exact hI6
        have HX6 := Lib.hid (hk6 _ _ _ _ HX7.out (by decide) hne)
        have HB6 := Lib.hid (HB7.out.trans hb6)
        clear hI6 hb6 hk6 HI7 HX7 HB7
        go_wp2_with fail
        go_roundw
        case rel => exact ⟨q + 1, by omega, by go_num, HI6, HX6, HB6⟩
        case measure => simp [intOf]; omega
end Go.Proofs.YthbnmehbhpakaaaGreatDoor
set_option autoImplicit false
set_option relaxedAutoImplicit false
set_option linter.unusedVariables false
set_option linter.unusedSimpArgs false
namespace Go.Proofs.YthbnmehbhpakaaaGreatDoor
open Go.Rows Go.RowKit Go.Shelf Go.Sort

/-- what is told of a package -/
noncomputable def packP (p : Pack) : ByteArray × Int := if packB p = true then (packText p, 0) else (⟨#[]⟩, 24)
theorem packB_parts {p : Pack} (h : packB p = true) : p.name.size ≤ 16 ∧ listB p.deps = true ∧ listB p.peers = true ∧ listB p.opts = true := by
  unfold packB at h
  simp only [Bool.and_eq_true, decide_eq_true_eq] at h
  obtain ⟨hn, hv, hd, hp, ho, _, _⟩ := h
  exact ⟨nameB_size hn, hd, hp, ho⟩

set_option maxHeartbeats 1600000 in
set_option maxRecDepth 100000 in
theorem packPrint_any (p : Pack) (u : Value) (w : World) (S : Nat → Prop) (ht : Tab w) (hv : PackV w S p u) :
    Calls Tryz.prog 25 #[u] w fun e w' => e = .returned (.tuple #[.string (packP p).1, .int .i64 (packP p).2]) ∧ Below w.heap.size w w' := by
  have HM := Lib.hid (fun W (hW : Below w.heap.size w W) => packMay_any p u W S (tab_below ht hW) (hv.keep hW))
  have HT := Lib.hid (fun (hB : packB p = true) W (hW : Below w.heap.size w W) => packText_any p u W S (tab_below ht hW) (packB_parts hB).1 (packB_parts hB).2.1 (packB_parts hB).2.2.1 (packB_parts hB).2.2.2 (hv.keep hW))
  obtain ⟨A1, n1, c1, A2, n2, c2, A3, n3, c3, rfl, _, _, _, _⟩ := hv
  obtain ⟨R, hR⟩ : ∃ R, R = packP p := ⟨_, rfl⟩
  have Hno : Hid (packB p = false → R = (⟨#[]⟩, 24)) := fun h => by rw [hR]; unfold packP; rw [if_neg (by rw [h]; decide)]
  have Hyes : Hid (packB p = true → R = (packText p, 0)) := fun h => by rw [hR]; unfold packP; rw [if_pos h]
  rw [← hR]
  clear hR ht
  generalize packB p = b at *
  generalize packText p = s at *
  generalize p.name = nm at *
  generalize p.ver.major = x1 at *
  generalize p.ver.minor = x2 at *
  generalize p.ver.patch = x3 at *
  go_enter Tryz.func25, Tryz.ntmps25
  go_wp2_with fail
  obtain ⟨w0, hw0⟩ : ∃ w0, w0 = w.alloc (.cells #[.string nm, .int .i64 x1, .int .i64 x2, .int .i64 x3, .slice A1 n1 c1, .slice A2 n2 c2, .slice A3 n3 c3] 57) := ⟨_, rfl⟩
  have hr0 : w0.heap[w.heap.size]? = some (.cells #[.string nm, .int .i64 x1, .int .i64 x2, .int .i64 x3, .slice A1 n1 c1, .slice A2 n2 c2, .slice A3 n3 c3] 57 (0, 0)) := by rw [hw0]; exact heap_alloc_new w _
  have HB0 : Hid (Below w.heap.size w w0) := by unfold Hid; rw [hw0]; exact bal (Below.refl _ _) _
  have hz0 : w.heap.size < w0.heap.size := (Array.getElem?_eq_some_iff.1 hr0).1
  rw [← hw0]
  clear hw0
  refine (HM.out w0 HB0.out).mono ?_
  rintro e w1 ⟨rfl, hb1⟩
  have HB1 := Lib.hid (bot HB0.out hb1)
  obtain ⟨⟨a0, a1, a2, a3, a4, a5, a6⟩, _⟩ := row7 ((hb1.block _ hz0).trans hr0)
  clear hb1 HB0 hr0 hz0 HM
  cases b with
  | false =>
    have hq := Hno.out rfl
    subst hq
    clear Hno Hyes HT
    go_wp2_with fail
    go_ret2
    exact ⟨rfl, HB1.out⟩
  | true =>
    have hq := Hyes.out rfl
    subst hq
    have HT' := Lib.hid (HT.out rfl)
    clear Hno Hyes HT
    go_wp2_with fail
    refine (HT'.out w1 HB1.out).mono ?_
    rintro e w2 ⟨rfl, hb2⟩
    go_wp2_with fail
    go_ret2
    exact ⟨rfl, bot HB1.out hb2⟩
end Go.Proofs.YthbnmehbhpakaaaGreatDoor
