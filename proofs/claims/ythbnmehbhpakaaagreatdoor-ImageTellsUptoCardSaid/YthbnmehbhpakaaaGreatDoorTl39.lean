/-
  The document's text of a lock, and its Print: walked.
-/
import Derived.Test.YthbnmehbhpakaaaGreatDoorTl36
import Derived.Test.YthbnmehbhpakaaaGreatDoorTl38
set_option autoImplicit false
set_option relaxedAutoImplicit false
set_option linter.unusedVariables false
set_option linter.unusedSimpArgs false
namespace Go.Proofs.YthbnmehbhpakaaaGreatDoor
open Go.Rows Go.RowKit Go.Shelf Go.Sort

theorem cat5 (a b c d e f : ByteArray) (h : a.size + b.size + c.size + d.size + e.size + f.size ≤ maxLen) : (∀ W : World, (Op.stringOp .add a b).run Tryz.prog W = .ok (.string (a ++ b)) W) ∧ (∀ W : World, (Op.stringOp .add (a ++ b) c).run Tryz.prog W = .ok (.string (a ++ b ++ c)) W) ∧
    (∀ W : World, (Op.stringOp .add (a ++ b ++ c) d).run Tryz.prog W = .ok (.string (a ++ b ++ c ++ d)) W) ∧ (∀ W : World, (Op.stringOp .add (a ++ b ++ c ++ d) e).run Tryz.prog W = .ok (.string (a ++ b ++ c ++ d ++ e)) W) ∧
    (∀ W : World, (Op.stringOp .add (a ++ b ++ c ++ d ++ e) f).run Tryz.prog W = .ok (.string (a ++ b ++ c ++ d ++ e ++ f)) W) := by
  unfold maxLen at h
  refine ⟨fun W => run_string_add_sum W _ _ ?_, fun W => run_string_add_sum W _ _ ?_, fun W => run_string_add_sum W _ _ ?_, fun W => run_string_add_sum W _ _ ?_, fun W => run_string_add_sum W _ _ ?_⟩
  all_goals first | omega | (simp only [ByteArray.size_append]; omega)

set_option maxHeartbeats 8000000 in
set_option maxRecDepth 100000 in
theorem refText07_any (A : Option Addr) (n c : Nat) (l : List Node) (w : World) (S : Nat → Prop) (hl : SlV rNode w S l (.slice A n c)) (hlb : lockB l = true) :
    Calls Tryz.prog 87 #[.agg #[.slice A n c]] w fun e w' => e = .returned (.string (lockText l)) ∧ Below w.heap.size w w' := by
  have hn := hl.n_eq
  have hcn := hl.cap_le
  unfold maxLen at hcn
  have HL := Lib.hid hl
  have Hn := Lib.hid hn
  obtain ⟨hn128, hzz⟩ := lockB_nodes hlb
  have hnz : n ≤ 128 := by omega
  have HZZ := Lib.hid hzz
  have HT : Hid (lockText l = lockW ++ nodesT 0 l) := rfl
  clear hl hn hzz hlb hn128
  obtain ⟨TX, hTX⟩ : ∃ TX, TX = lockText l := ⟨_, rfl⟩
  rw [← hTX]
  rw [← hTX] at HT
  clear hTX
  obtain ⟨w0, hw0⟩ : ∃ w0, w0 = w.alloc (.cells #[.slice A n c] 27) := ⟨_, rfl⟩
  have HBw0 : Hid (Below w.heap.size w w0) := by unfold Hid; rw [hw0]; exact bal (Below.refl _ _) _
  have HQ0 : Hid (w0.heap[w.heap.size]? = some (.cells #[.slice A n c] 27 (0, 0))) := by unfold Hid; rw [hw0]; exact heap_new _ _
  have hq0 : w.heap.size < w0.heap.size := (Array.getElem?_eq_some_iff.1 HQ0.out).1
  go_enter Tryz.func87, Tryz.ntmps87
  go_wp2_with fail
  rw [← hw0]
  clear hw0
  go_loopw [3, 4] (fun v i wr => ∃ k : Nat, k ≤ n ∧ v = .string (lockW ++ nodesT 0 (l.take k)) ∧ i = .int .i64 k ∧ Hid (Below w0.heap.size w0 wr)) (fun _ i _ => n - (intOf i).toNat)
  case atStart => exact ⟨0, Nat.zero_le _, congrArg Value.string (append_emptyB lockW).symm, rfl, Below.refl _ _⟩
  case round =>
    obtain ⟨k, hk, rfl, rfl, HB⟩ := hrel
    have hk0 : (0 : Int) ≤ (k : Int) := by omega
    have p0 : wr.cell? ⟨w.heap.size, 0, none⟩ = some (.slice A n c) := below_cell HB.out (cell_of_row _ _ 0 _ _ _ HQ0.out) hq0
    by_cases hlt : k < n
    case neg =>
      obtain rfl : n = k := by omega
      have hI : ¬ (n : Int) < (n : Int) := by omega
      rw [List.take_of_length_le (by rw [← Hn.out]; exact Nat.le_refl _), ← HT.out]
      go_wp2_with fail
      go_ret
      exact ⟨rfl, bot HBw0.out HB.out⟩
    have hkI : (k : Int) < (n : Int) := by omega
    have hkl : k < l.length := by rw [← Hn.out]; exact hlt
    obtain ⟨x, hx⟩ : ∃ x, l[k]? = some x := ⟨_, List.getElem?_eq_getElem hkl⟩
    obtain ⟨z1, z2, z3, z4, z5⟩ := HZZ.out x (List.mem_of_getElem? hx)
    have HBw := Lib.hid (bot HBw0.out HB.out)
    obtain ⟨b, o, pA, pn, pc, eA, en, ec, rfl, hb, hnm, hp, he, hpn, hen, c0, c1, c2, c3, c4, c5⟩ := node_elem HL.out hx
    have c0 := below_cell HBw.out c0 hb
    have c1 := below_cell HBw.out c1 hb
    have c2 := below_cell HBw.out c2 hb
    have c3 := below_cell HBw.out c3 hb
    have c4 := below_cell HBw.out c4 hb
    have c5 := below_cell HBw.out c5 hb
    have Htk := Lib.hid (nodesT_take hx)
    have hzn : (nodesT 0 (l.take k)).size ≤ 10280 * 128 := by
      have h1 := nodesT_le (l := l.take k) (fun y hy => HZZ.out y (List.mem_of_mem_take hy)) 0
      rw [List.length_take] at h1
      omega
    have HT0 : Hid (lockW ++ nodesT 0 (l.take (k + 1)) = lockW ++ nodesT 0 (l.take k) ++ nodeL k x ++ withs x.ctx ++ tos x.edges) := by
      unfold Hid
      rw [Htk.out]
      unfold nodeT
      apply ByteArray.ext
      simp [ByteArray.data_append]
    have hT0z : (lockW ++ nodesT 0 (l.take k)).size ≤ 10280 * 128 + 5 := by rw [ByteArray.size_append]; have : lockW.size = 5 := rfl; omega
    have hvt : (verT x.ver).size ≤ 11 := verText_le _ _ _
    have HCtx : Hid (∀ (q : Nat) (y : Pin), x.ctx[q]? = some y → y.name.size ≤ 16) := fun q y hy => z4 y (List.mem_of_getElem? hy)
    have HEdg : Hid (∀ (q : Nat) (y : Edge), x.edges[q]? = some y → y.label.size ≤ 16 ∧ 0 ≤ y.to ∧ y.to ≤ 999) := fun q y hy => z5 y (List.mem_of_getElem? hy)
    have HCz : Hid (∀ q, (withs (x.ctx.take q)).size ≤ 5120) := fun q => by
      have h1 := withs_le (l := x.ctx.take q) (fun y hy => z4 y (List.mem_of_mem_take hy))
      rw [List.length_take] at h1
      omega
    have HEz : Hid (∀ q, (tos (x.edges.take q)).size ≤ 5120) := fun q => by
      have h1 := tos_le (l := x.edges.take q) (fun y hy => z5 y (List.mem_of_mem_take hy))
      rw [List.length_take] at h1
      omega
    have hnlz := nodeL_le (i := k) z1
    have HNL : Hid (nodeL k x = if k = 0 then rootW else nodeW ++ x.name ++ spaceB ++ verT x.ver ++ nlB) := rfl
    have hpcn := hp.cap_le
    have hecn := he.cap_le
    unfold maxLen at hpcn hecn
    have HP := Lib.hid hp
    have HE := Lib.hid he
    have HPn := Lib.hid hpn
    have HEn := Lib.hid hen
    have HZn := Lib.hid hnlz
    have HZt := Lib.hid hT0z
    have hpn2 : pn ≤ 128 := by omega
    have hen2 : en ≤ 128 := by omega
    clear hx hp he hpn hen hzn Htk z2 z3 z4 z5 hnlz hT0z
    obtain ⟨T0, hT0⟩ : ∃ T0, T0 = lockW ++ nodesT 0 (l.take k) := ⟨_, rfl⟩
    rw [← hT0] at HT0 HZt ⊢
    clear hT0
    have HNode : Hid (∀ W, Below w.heap.size w W → SlV rPin W S x.ctx (.slice pA pn pc) ∧ SlV rEdge W S x.edges (.slice eA en ec)) := fun W hW => ⟨HP.out.belowSize hW, HE.out.belowSize hW⟩
    have HVc : Hid (∀ W, Calls Tryz.prog 155 #[.agg #[.int .i64 x.ver.major, .int .i64 x.ver.minor, .int .i64 x.ver.patch]] W fun e w' => e = .returned (.string (verT x.ver)) ∧ Below W.heap.size W w') := fun W => refVerPrint_any _ _ _ W
    generalize x.name = nm at *
    generalize hv1 : x.ver.major = v1 at *
    generalize hv2 : x.ver.minor = v2 at *
    generalize hv3 : x.ver.patch = v3 at *
    generalize verT x.ver = vt at *
    generalize nodeL k x = nl at *
    generalize x.ctx = ctx at *
    generalize x.edges = eds at *
    clear hv1 hv2 hv3 HP HE
    go_upto_region 6 with (fail)
    obtain ⟨w4, hw4⟩ : ∃ w4, w4 = wr.alloc (.cells #[.string nm, .int .i64 v1, .int .i64 v2, .int .i64 v3, .slice pA pn pc, .slice eA en ec] 63) := ⟨_, rfl⟩
    have hq4 : w4.heap[wr.heap.size]? = some (.cells #[.string nm, .int .i64 v1, .int .i64 v2, .int .i64 v3, .slice pA pn pc, .slice eA en ec] 63 (0, 0)) := by rw [hw4]; exact heap_new _ _
    have hb4 : Below wr.heap.size wr w4 := by rw [hw4]; exact bal (Below.refl _ _) _
    rw [← hw4]
    obtain ⟨QB, hQB⟩ : ∃ QB, QB = wr.heap.size := ⟨_, rfl⟩
    have HX4 : Hid (w4.heap[QB]? = some (.cells #[.string nm, .int .i64 v1, .int .i64 v2, .int .i64 v3, .slice pA pn pc, .slice eA en ec] 63 (0, 0))) := by unfold Hid; rw [hQB]; exact hq4
    rw [← hQB]
    have HB4 := Lib.hid (bot HB.out hb4)
    have hq5 : QB < w4.heap.size := (Array.getElem?_eq_some_iff.1 HX4.out).1
    have HCzA : Hid ((withs ctx).size ≤ 5120) := by
      have := HCz.out pn
      rwa [List.take_of_length_le (by rw [← HPn.out]; exact Nat.le_refl _)] at this
    clear hw4 hq4 hb4 HB HBw c0 c1 c2 c3 c4 c5 hQB p0
    refine dite (k = 0) (fun hk00 => ?_) (fun hk00 => ?_)
    focus
      have hkb : ((k : Int) == 0) = true := by simp [hk00]
      have HNl2 : Hid (nl = rootW) := by unfold Hid; rw [HNL.out, if_pos hk00]
      have Z0 : ∀ W : World, (Op.stringOp .add T0 ⟨#[114, 111, 111, 116, 10]⟩).run Tryz.prog W = .ok (.string (T0 ++ nl)) W := by
        rw [HNl2.out]
        exact fun W => run_string_add_sum W _ rootW (by have := HZt.out; have : rootW.size = 5 := rfl; omega)
      have HX8 := HX4
      have HB8 := HB4
      obtain ⟨w8, hw8⟩ : ∃ w8, w8 = w4 := ⟨_, rfl⟩
      rw [← hw8] at HX8 HB8
      clear hk00 HNL HNl2
      go_wp2_with fail
      rw [← hw8]
      clear hw8 Z0
    rotate_left
    focus
      have hkb : ((k : Int) == 0) = false := by simp; omega
      have HNl2 : Hid (nl = nodeW ++ nm ++ spaceB ++ vt ++ nlB) := by unfold Hid; rw [HNL.out, if_neg hk00]
      obtain ⟨Z0', Z1', Z2', Z3', Z4'⟩ := cat5 T0 nodeW nm spaceB vt nlB (by have h1 : nodeW.size = 5 := rfl; have h2 : spaceB.size = 1 := rfl; have h3 : nlB.size = 1 := rfl; have := HZt.out; unfold maxLen; omega)
      have Z0 : ∀ W : World, (Op.stringOp .add T0 ⟨#[110, 111, 100, 101, 32]⟩).run Tryz.prog W = .ok (.string (T0 ++ nodeW)) W := Z0'
      have Z2 : ∀ W : World, (Op.stringOp .add (T0 ++ nodeW ++ nm) ⟨#[32]⟩).run Tryz.prog W = .ok (.string (T0 ++ nodeW ++ nm ++ spaceB)) W := Z2'
      have Hnew : Hid (T0 ++ nodeW ++ nm ++ spaceB ++ vt ++ nlB = T0 ++ nl) := by
        unfold Hid
        rw [HNl2.out]
        apply ByteArray.ext
        simp [ByteArray.data_append]
      have Z4 : ∀ W : World, (Op.stringOp .add (T0 ++ nodeW ++ nm ++ spaceB ++ vt) ⟨#[10]⟩).run Tryz.prog W = .ok (.string (T0 ++ nl)) W := by rw [← Hnew.out]; exact Z4'
      have Hc := Lib.hid (qcall (w := w4) (fun W hW => HVc.out W))
      have x0 : w4.cell? ⟨QB, 0, none⟩ = some (.string nm) := cell_of_row _ _ 0 _ _ _ HX4.out
      have x1 : w4.cell? ⟨QB, 1, none⟩ = some (.int .i64 v1) := cell_of_row _ _ 1 _ _ _ HX4.out
      have x2 : w4.cell? ⟨QB, 2, none⟩ = some (.int .i64 v2) := cell_of_row _ _ 2 _ _ _ HX4.out
      have x3 : w4.cell? ⟨QB, 3, none⟩ = some (.int .i64 v3) := cell_of_row _ _ 3 _ _ _ HX4.out
      clear hk00 HNL HNl2 Z0' Z2' Z4' Hnew
      have r_x0 := cell_regrown x0
      have r_x1 := cell_regrown x1
      have r_x2 := cell_regrown x2
      have r_x3 := cell_regrown x3
      go_wp2_with fail
      refine wp_region_qb (by kernel_rfl) (by kernel_rfl) ?_
      repeat (go_big_quiet_step (first | (with_reducible exact Hc.out _ _)))
      refine wpQuiet_nil ?_
      intro w8 B8
      have HX8 := Lib.hid ((B8.block _ hq5).trans HX4.out)
      have HB8 := Lib.hid (bot HB4.out B8)
      clear Z0 Z1' Z2 Z3' Z4 B8 Hc r_x0 r_x1 r_x2 r_x3 x0 x1 x2 x3
    all_goals
      clear HX4 HB4 hq5 HVc
      go_wp2_with fail
      go_loopw [3, 6] (fun v i wi => ∃ q : Nat, q ≤ pn ∧ v = .string (T0 ++ nl ++ withs (ctx.take q)) ∧ i = .int .i64 q ∧ Hid (wi.heap[QB]? = some (.cells #[.string nm, .int .i64 v1, .int .i64 v2, .int .i64 v3, .slice pA pn pc, .slice eA en ec] 63 (0, 0))) ∧ Hid (Below w0.heap.size w0 wi)) (fun _ i _ => pn - (intOf i).toNat)
      case atStart => exact ⟨0, Nat.zero_le _, congrArg Value.string (append_emptyB _).symm, rfl, HX8, HB8⟩
      case round =>
        clear HX8 HB8
        obtain ⟨q, hq, rfl, rfl, HX, HB⟩ := hrel
        have hq0 : (0 : Int) ≤ (q : Int) := by omega
        have hqb : QB < wr.heap.size := (Array.getElem?_eq_some_iff.1 HX.out).1
        have x4 : wr.cell? ⟨QB, 4, none⟩ = some (.slice pA pn pc) := cell_of_row _ _ 4 _ _ _ HX.out
        by_cases hqt : q < pn
        case neg =>
          obtain rfl : pn = q := by omega
          have hI : ¬ (pn : Int) < (pn : Int) := by omega
          have hall : ctx.take pn = ctx := List.take_of_length_le (by rw [← HPn.out]; exact Nat.le_refl _)
          rw [hall]
          have HX9 := HX
          have HB9 := HB
          obtain ⟨wo, rfl⟩ : ∃ wo : World, wo = wr := ⟨_, rfl⟩
          clear hall
          go_wp2_with fail
          clear x4 hqb
          go_loopw [3, 7] (fun v i wi => ∃ j : Nat, j ≤ en ∧ v = .string (T0 ++ nl ++ withs ctx ++ tos (eds.take j)) ∧ i = .int .i64 j ∧ Hid (wi.heap[QB]? = some (.cells #[.string nm, .int .i64 v1, .int .i64 v2, .int .i64 v3, .slice pA pn pc, .slice eA en ec] 63 (0, 0))) ∧ Hid (Below w0.heap.size w0 wi)) (fun _ i _ => en - (intOf i).toNat)
          case atStart => exact ⟨0, Nat.zero_le _, congrArg Value.string (append_emptyB _).symm, rfl, HX9, HB9⟩
          case round =>
            clear HX9 HB9
            obtain ⟨j, hj, rfl, rfl, HX, HB⟩ := hrel
            have hj0 : (0 : Int) ≤ (j : Int) := by omega
            have hqb : QB < wr.heap.size := (Array.getElem?_eq_some_iff.1 HX.out).1
            have x5 : wr.cell? ⟨QB, 5, none⟩ = some (.slice eA en ec) := cell_of_row _ _ 5 _ _ _ HX.out
            by_cases hjt : j < en
            case neg =>
              obtain rfl : en = j := by omega
              have hI : ¬ (en : Int) < (en : Int) := by omega
              have hall : eds.take en = eds := List.take_of_length_le (by rw [← HEn.out]; exact Nat.le_refl _)
              rw [hall]
              rw [← HT0.out]
              clear hall
              go_wp2_with fail
              go_roundw
              case rel => exact ⟨k + 1, by omega, rfl, by go_num, HB⟩
              case measure => simp [intOf]; omega
            have hjI : (j : Int) < (en : Int) := by omega
            have hjl : j < eds.length := by rw [← HEn.out]; exact hjt
            obtain ⟨y, hy⟩ : ∃ y, eds[j]? = some y := ⟨_, List.getElem?_eq_getElem hjl⟩
            obtain ⟨hyz, hy0, hy9⟩ := HEdg.out j y hy
            have Htk := Lib.hid (tos_take hy)
            have hvz := itoaB_small hy0 hy9
            have Hln : Hid (toL y = toW ++ y.label ++ spaceB ++ itoaB y.to ++ nlB) := rfl
            obtain ⟨b2, o2, cs2, hA2, _, _, ⟨hcs2, _⟩, hcell2⟩ := (HNode.out wr (bot HBw0.out HB.out)).2.elem hy
            have e0 := hcell2 0 _ (by rw [hcs2]; rfl)
            have e1 := hcell2 1 _ (by rw [hcs2]; rfl)
            simp only [rEdge, Nat.add_zero] at e0 e1
            have Hc := Lib.hid (qcall (w := wr) (fun W hW => refNumber_any y.to hy0 (by omega) W))
            subst hA2
            clear hcell2 hcs2 hy
            generalize toL y = line at *
            generalize y.label = ym at *
            generalize itoaB y.to = yv at *
            generalize y.to = yt at *
            have hzA : (T0 ++ nl ++ withs ctx ++ tos (eds.take j)).size ≤ 1400000 := by simp only [ByteArray.size_append]; have := HZt.out; have := HZn.out; have := HCzA.out; have := HEz.out j; omega
            generalize hTT : T0 ++ nl ++ withs ctx ++ tos (eds.take j) = TT at *
            obtain ⟨Z0', Z1', Z2', Z3', Z4'⟩ := cat5 TT toW ym spaceB yv nlB (by have h1 : toW.size = 3 := rfl; have h2 : spaceB.size = 1 := rfl; have h3 : nlB.size = 1 := rfl; unfold maxLen; omega)
            have Z0 : ∀ W : World, (Op.stringOp .add TT ⟨#[116, 111, 32]⟩).run Tryz.prog W = .ok (.string (TT ++ toW)) W := Z0'
            have Z2 : ∀ W : World, (Op.stringOp .add (TT ++ toW ++ ym) ⟨#[32]⟩).run Tryz.prog W = .ok (.string (TT ++ toW ++ ym ++ spaceB)) W := Z2'
            have Hnew : Hid (TT ++ toW ++ ym ++ spaceB ++ yv ++ nlB = T0 ++ nl ++ withs ctx ++ tos (eds.take (j + 1))) := by
              unfold Hid
              rw [Htk.out, Hln.out, ← ByteArray.append_assoc, hTT]
              apply ByteArray.ext
              simp [ByteArray.data_append]
            have Z4 : ∀ W : World, (Op.stringOp .add (TT ++ toW ++ ym ++ spaceB ++ yv) ⟨#[10]⟩).run Tryz.prog W = .ok (.string (T0 ++ nl ++ withs ctx ++ tos (eds.take (j + 1)))) W := by rw [← Hnew.out]; exact Z4'
            clear Z0' Z2' Z4' Hln hyz hvz hTT Htk Hnew hzA
            have r_x5 := cell_regrown x5
            have r_e0 := cell_regrown e0
            have r_e1 := cell_regrown e1
            go_wp2_with fail
            refine wp_region_qb (by kernel_rfl) (by kernel_rfl) ?_
            repeat (go_big_quiet_step (first | (with_reducible exact Hc.out _ _)))
            refine wpQuiet_nil ?_
            intro w7 B7
            have HX7 := Lib.hid ((B7.block _ hqb).trans HX.out)
            have HB7 := Lib.hid (bot HB.out B7)
            clear Z0 Z1' Z2 Z3' Z4 B7 Hc r_e0 r_e1 e0 e1 x5 r_x5 HX HB hqb
            go_wp2_with fail
            go_roundw
            case rel => exact ⟨j + 1, by omega, rfl, by go_num, HX7, HB7⟩
            case measure => simp [intOf]; omega
        have hqI : (q : Int) < (pn : Int) := by omega
        have hql : q < ctx.length := by rw [← HPn.out]; exact hqt
        obtain ⟨y, hy⟩ : ∃ y, ctx[q]? = some y := ⟨_, List.getElem?_eq_getElem hql⟩
        have hyz := HCtx.out q y hy
        have Htk := Lib.hid (withs_take hy)
        have hvz : (verT y.ver).size ≤ 11 := verText_le _ _ _
        have Hln : Hid (withL y = withW ++ y.name ++ spaceB ++ verT y.ver ++ nlB) := rfl
        obtain ⟨b2, o2, cs2, hA2, _, _, ⟨hcs2, _⟩, hcell2⟩ := (HNode.out wr (bot HBw0.out HB.out)).1.elem hy
        have e0 := hcell2 0 _ (by rw [hcs2]; rfl)
        have e1 := hcell2 1 _ (by rw [hcs2]; rfl)
        have e2 := hcell2 2 _ (by rw [hcs2]; rfl)
        have e3 := hcell2 3 _ (by rw [hcs2]; rfl)
        simp only [rPin, Nat.add_zero] at e0 e1 e2 e3
        have Hc := Lib.hid (qcall (w := wr) (fun W hW => refVerPrint_any y.ver.major y.ver.minor y.ver.patch W))
        have Hyv : Hid (verText y.ver.major y.ver.minor y.ver.patch = verT y.ver) := rfl
        rw [Hyv.out] at Hc
        subst hA2
        clear hcell2 hcs2 hy
        generalize withL y = line at *
        generalize y.name = ym at *
        generalize y.ver.major = y1 at *
        generalize y.ver.minor = y2 at *
        generalize y.ver.patch = y3 at *
        generalize verT y.ver = yv at *
        have hzA : (T0 ++ nl ++ withs (ctx.take q)).size ≤ 1400000 := by simp only [ByteArray.size_append]; have := HZt.out; have := HZn.out; have := HCzA.out; have := HCz.out q; omega
        generalize hTT : T0 ++ nl ++ withs (ctx.take q) = TT at *
        obtain ⟨Z0', Z1', Z2', Z3', Z4'⟩ := cat5 TT withW ym spaceB yv nlB (by have h1 : withW.size = 5 := rfl; have h2 : spaceB.size = 1 := rfl; have h3 : nlB.size = 1 := rfl; unfold maxLen; omega)
        have Z0 : ∀ W : World, (Op.stringOp .add TT ⟨#[119, 105, 116, 104, 32]⟩).run Tryz.prog W = .ok (.string (TT ++ withW)) W := Z0'
        have Z2 : ∀ W : World, (Op.stringOp .add (TT ++ withW ++ ym) ⟨#[32]⟩).run Tryz.prog W = .ok (.string (TT ++ withW ++ ym ++ spaceB)) W := Z2'
        have Hnew : Hid (TT ++ withW ++ ym ++ spaceB ++ yv ++ nlB = T0 ++ nl ++ withs (ctx.take (q + 1))) := by
          unfold Hid
          rw [Htk.out, Hln.out, ← ByteArray.append_assoc, hTT]
          apply ByteArray.ext
          simp [ByteArray.data_append]
        have Z4 : ∀ W : World, (Op.stringOp .add (TT ++ withW ++ ym ++ spaceB ++ yv) ⟨#[10]⟩).run Tryz.prog W = .ok (.string (T0 ++ nl ++ withs (ctx.take (q + 1)))) W := by rw [← Hnew.out]; exact Z4'
        clear Z0' Z2' Z4' Hln hyz hvz hTT Htk Hnew hzA
        have r_x4 := cell_regrown x4
        have r_e0 := cell_regrown e0
        have r_e1 := cell_regrown e1
        have r_e2 := cell_regrown e2
        have r_e3 := cell_regrown e3
        go_wp2_with fail
        refine wp_region_qb (by kernel_rfl) (by kernel_rfl) ?_
        repeat (go_big_quiet_step (first | (with_reducible exact Hc.out _ _)))
        refine wpQuiet_nil ?_
        intro w7 B7
        have HX7 := Lib.hid ((B7.block _ hqb).trans HX.out)
        have HB7 := Lib.hid (bot HB.out B7)
        clear Z0 Z1' Z2 Z3' Z4 B7 Hc r_e0 r_e1 r_e2 r_e3 e0 e1 e2 e3 x4 r_x4 HX HB hqb
        go_wp2_with fail
        go_roundw
        case rel => exact ⟨q + 1, by omega, rfl, by go_num, HX7, HB7⟩
        case measure => simp [intOf]; omega

set_option maxHeartbeats 3200000 in
set_option maxRecDepth 100000 in
theorem refLockPrint_any (A : Option Addr) (n c : Nat) (l : List Node) (w : World) (S : Nat → Prop) (hl : SlV rNode w S l (.slice A n c)) (hz : NodesZ l) :
    Calls Tryz.prog 32 #[.agg #[.slice A n c]] w fun e w' => e = .returned (.tuple #[.string (lockP l).1, .int .i64 (lockP l).2]) ∧ Below w.heap.size w w' := by
  have HM : Hid (∀ W, Below w.heap.size w W → Calls Tryz.prog 86 #[.agg #[.slice A n c]] W fun e w' => e = .returned (.bool (lockB l)) ∧ Below W.heap.size W w') := fun W hW => refLockMay_any A n c l W S (hl.belowSize hW) hz
  have HTx : Hid (lockB l = true → ∀ W, Below w.heap.size w W → Calls Tryz.prog 87 #[.agg #[.slice A n c]] W fun e w' => e = .returned (.string (lockText l)) ∧ Below W.heap.size W w') := fun h W hW => refText07_any A n c l W S (hl.belowSize hW) h
  have HNo : Hid (lockB l = false → lockP l = (⟨#[]⟩, 33)) := fun h => by unfold lockP; rw [if_neg (by rw [h]; decide)]
  have HYes : Hid (lockB l = true → lockP l = (lockText l, 0)) := fun h => by unfold lockP; rw [if_pos h]
  clear hl hz
  generalize lockP l = R at *
  generalize lockText l = TX at *
  obtain ⟨w0, hw0⟩ : ∃ w0, w0 = w.alloc (.cells #[.slice A n c] 27) := ⟨_, rfl⟩
  have HB0 : Hid (Below w.heap.size w w0) := by unfold Hid; rw [hw0]; exact bal (Below.refl _ _) _
  have HQ0 : Hid (w0.heap[w.heap.size]? = some (.cells #[.slice A n c] 27 (0, 0))) := by unfold Hid; rw [hw0]; exact heap_new _ _
  have hq0 : w.heap.size < w0.heap.size := (Array.getElem?_eq_some_iff.1 HQ0.out).1
  go_enter Tryz.func32, Tryz.ntmps32
  go_wp2_with fail
  rw [← hw0]
  refine (HM.out w0 HB0.out).mono ?_
  rintro e w1 ⟨rfl, hb1⟩
  have HB1 := Lib.hid (bot HB0.out hb1)
  have p0 : w1.cell? ⟨w.heap.size, 0, none⟩ = some (.slice A n c) := below_cell hb1 (cell_of_row _ _ 0 _ _ _ HQ0.out) hq0
  clear hb1 hw0 HM
  cases hlb : lockB l with
  | false =>
    have hR := HNo.out hlb
    subst hR
    clear HNo HYes HTx
    go_wp2_with fail
    go_ret2
    exact ⟨rfl, HB1.out⟩
  | true =>
    have hR := HYes.out hlb
    subst hR
    have HT1 := Lib.hid (HTx.out hlb w1 HB1.out)
    clear HNo HYes HTx
    go_wp2_with fail
    refine HT1.out.mono ?_
    rintro e w2 ⟨rfl, hb2⟩
    go_wp2_with fail
    go_ret2
    exact ⟨rfl, bot HB1.out hb2⟩
end Go.Proofs.YthbnmehbhpakaaaGreatDoor
