/-
  The document's Files of a project, walked.
-/
import Derived.Test.YthbnmehbhpakaaaGreatDoorTl41
import Derived.Test.YthbnmehbhpakaaaGreatDoorTl37
set_option autoImplicit false
set_option relaxedAutoImplicit false
set_option linter.unusedVariables false
set_option linter.unusedSimpArgs false
namespace Go.Proofs.YthbnmehbhpakaaaGreatDoor
open Go.Rows Go.RowKit Go.Shelf Go.Sort

theorem sortS_snoc (L : List File) (f : File) : sortS (L ++ [f]) = putS (sortS L) f := by unfold sortS; rw [List.foldl_append]; rfl
theorem sortS_len (L : List File) : (sortS L).length = L.length := (sortS_perm L).length_eq
theorem put15_sort (L : List File) (f : File) (A : Option Addr) (n c : Nat) (w : World) (hl : SlV rFile w (fun _ => True) (sortS L) (.slice A n c)) (hnil : L = [] → A = none) (hL : L.length ≤ 1000000) (hp : f.path.size ≤ maxLen) (hd : f.data.size ≤ maxLen) :
    Calls Tryz.prog 33 #[.slice A n c, .agg #[.string f.path, .bool f.dir, .string f.data]] w fun e w' => (∃ A' n' c', e = .returned (.slice A' n' c') ∧ SlV rFile w' (fun _ => True) (sortS (L ++ [f])) (.slice A' n' c')) ∧ Below w.heap.size w w' := by
  have hn := hl.n_eq
  rw [sortS_len] at hn
  refine (put15_any A n c (sortS L) f w _ hl (fun h => hnil (List.eq_nil_of_length_eq_zero (by rw [← sortS_len, h]; rfl))) (by omega) hp hd).mono ?_
  rintro e w' ⟨⟨v, rfl, hs⟩, hb⟩
  rw [← sortS_snoc] at hs
  obtain ⟨A', c', rfl, _, _⟩ := hs.val
  have hz : (sortS (L ++ [f])).length = L.length + 1 := by rw [sortS_len, List.length_append]; rfl
  rw [hz] at hs ⊢
  exact ⟨⟨A', _, c', rfl, hs.more fun _ _ _ => trivial⟩, hb⟩

set_option maxHeartbeats 12800000 in
set_option maxRecDepth 100000 in
theorem refFiles15_any (s : Proj) (v : Value) (w : World) (S : Nat → Prop) (hz : ProjZ s) (hv : ProjV w S s v) :
    Calls Tryz.prog 9 #[v] w fun e w' => (∃ u, e = .returned (.tuple #[u, .int .i64 (imgF s).2]) ∧ SlV rFile w' (fun _ => True) (imgF s).1 u) ∧ Below w.heap.size w w' := by
  have HMy : Hid (∀ W, Below w.heap.size w W → Calls Tryz.prog 30 #[v] W fun e w' => e = .returned (.bool (mayI s)) ∧ Below W.heap.size W w') := fun W hW => refMay15_any s v W S hz (hv.keep hW)
  obtain ⟨A0, n0, c0, A1, n1, c1, A2, n2, c2, A3, n3, c3, A4, n4, c4, A5, n5, c5, rfl, h0, h1, h2, h3, h4, h5⟩ := hv
  have hn4 := h4.n_eq
  have hn5 := h5.n_eq
  have hc5 := h5.cap_le
  unfold maxLen at hc5
  have HSm : Hid (∀ W, Below w.heap.size w W → Calls Tryz.prog 16 #[.agg #[.slice A0 n0 c0, .slice A1 n1 c1, .slice A2 n2 c2, .slice A3 n3 c3], .agg #[.slice none 0 0, .slice none 0 0, .slice none 0 0, .slice none 0 0]] W fun e w' => e = .returned (.bool (eqB s.man man0)) ∧ Below W.heap.size W w') := fun W hW =>
    refManiSame_any s.man man0 _ _ W S S ⟨_, _, _, _, _, _, _, _, _, _, _, _, rfl, h0.belowSize hW, h1.belowSize hW, h2.belowSize hW, h3.belowSize hW⟩ ⟨_, _, _, _, _, _, _, _, _, _, _, _, rfl, SlV.nil_ _ _ _, SlV.nil_ _ _ _, SlV.nil_ _ _ _, SlV.nil_ _ _ _⟩
  have HPm : Hid (∀ W, Below w.heap.size w W → Calls Tryz.prog 31 #[.agg #[.slice A0 n0 c0, .slice A1 n1 c1, .slice A2 n2 c2, .slice A3 n3 c3]] W fun e w' => e = .returned (.tuple #[.string (maniP s.man).1, .int .i64 (maniP s.man).2]) ∧ Below W.heap.size W w') := fun W hW =>
    refManiPrint_any s.man _ W S ⟨_, _, _, _, _, _, _, _, _, _, _, _, rfl, h0.belowSize hW, h1.belowSize hW, h2.belowSize hW, h3.belowSize hW⟩
  have HLk : Hid (∀ W, Below w.heap.size w W → Calls Tryz.prog 32 #[.agg #[.slice A4 n4 c4]] W fun e w' => e = .returned (.tuple #[.string (lockP s.nodes).1, .int .i64 (lockP s.nodes).2]) ∧ Below W.heap.size W w') := fun W hW => refLockPrint_any A4 n4 c4 s.nodes W S (h4.belowSize hW) hz.1
  have HIn : Hid (∀ (k : Nat) W, Below w.heap.size w W → Calls Tryz.prog 36 #[.agg #[.slice A5 n5 c5], .int .i64 (k : Int)] W fun e w' => (∃ v, e = .returned v ∧ SlV rInt w' (fun b => W.heap.size ≤ b) (castL (insideL s.dirs k)) v) ∧ Below W.heap.size W w') := fun k W hW => by
    have := refInside_any A5 n5 c5 s.dirs (k : Int) W S (h5.belowSize hW) hz.2.2 hz.2.1
    rwa [insideI_nat] at this
  have HD := Lib.hid h5
  have Hn := Lib.hid hn5
  have Hlen := Lib.hid hz.2.2
  have HFm : Hid (imgF s = if mayI s = true then (if emptyQ s = true then ([], 0) else (sortS (imgU s), 0)) else ([], 43)) := rfl
  have HEq : Hid (emptyQ s = (eqB s.man man0 && (decide (n4 = 1) && (decide (n5 = 1) && !s.pruned)))) := by unfold Hid emptyQ; rw [hn4, hn5]
  have HMq : Hid (mayI s = true → maniP s.man = (maniText s.man, 0) ∧ (maniText s.man).size ≤ 4096 ∧ lockP s.nodes = (lockText s.nodes, 0) ∧ (lockText s.nodes).size ≤ 1400000) := fun h => by
    unfold mayI at h
    simp only [Bool.and_eq_true] at h
    have hb := h.1
    have hl := h.2.1
    refine ⟨by unfold maniP; rw [if_pos hb], ?_, by unfold lockP; rw [if_pos hl], lockText_le hl⟩
    unfold maniB at hb
    simp only [Bool.and_eq_true, decide_eq_true_eq] at hb
    exact hb.2.2.2.2.2
  have HUp := Lib.hid (imgU_parts s)
  have HUl := Lib.hid (imgU_len s)
  have HCk : Hid (mayI s = true → checkE s.dirs = 0) := fun h => mayI_check h
  have Hpr : Hid (imgPru s = if s.pruned = true then [⟨pruF, false, emB⟩] else []) := rfl
  have Hhd : Hid (imgHead s = [⟨manF, false, maniText s.man⟩, ⟨lokF, false, lockText s.nodes⟩]) := rfl
  have hnz : n5 ≤ 1048576 := by have := hz.2.1; omega
  clear h0 h1 h2 h3 h4 h5 hn4 hn5 hz
  obtain ⟨w0, hw0⟩ : ∃ w0, w0 = w.alloc (.cells #[.slice A0 n0 c0, .slice A1 n1 c1, .slice A2 n2 c2, .slice A3 n3 c3, .slice A4 n4 c4, .slice A5 n5 c5, .bool s.pruned] 32) := ⟨_, rfl⟩
  have HB0 : Hid (Below w.heap.size w w0) := by unfold Hid; rw [hw0]; exact bal (Below.refl _ _) _
  have HQ0 : Hid (w0.heap[w.heap.size]? = some (.cells #[.slice A0 n0 c0, .slice A1 n1 c1, .slice A2 n2 c2, .slice A3 n3 c3, .slice A4 n4 c4, .slice A5 n5 c5, .bool s.pruned] 32 (0, 0))) := by unfold Hid; rw [hw0]; exact heap_new _ _
  have hq0 : w.heap.size < w0.heap.size := (Array.getElem?_eq_some_iff.1 HQ0.out).1
  have Hst : Hid (∀ W, Below w0.heap.size w0 W → W.cell? ⟨w.heap.size, 0, none⟩ = some (.slice A0 n0 c0) ∧ W.cell? ⟨w.heap.size, 1, none⟩ = some (.slice A1 n1 c1) ∧ W.cell? ⟨w.heap.size, 2, none⟩ = some (.slice A2 n2 c2) ∧ W.cell? ⟨w.heap.size, 3, none⟩ = some (.slice A3 n3 c3) ∧ W.cell? ⟨w.heap.size, 4, none⟩ = some (.slice A4 n4 c4) ∧ W.cell? ⟨w.heap.size, 5, none⟩ = some (.slice A5 n5 c5) ∧ W.cell? ⟨w.heap.size, 6, none⟩ = some (.bool s.pruned)) := fun W hW => by
    have hX := (hW.block _ hq0).trans HQ0.out
    exact ⟨cell_of_row _ _ 0 _ _ _ hX, cell_of_row _ _ 1 _ _ _ hX, cell_of_row _ _ 2 _ _ _ hX, cell_of_row _ _ 3 _ _ _ hX, cell_of_row _ _ 4 _ _ _ hX, cell_of_row _ _ 5 _ _ _ hX, cell_of_row _ _ 6 _ _ _ hX⟩
  generalize imgF s = R at *
  generalize mayI s = my at *
  go_enter Tryz.func9, Tryz.ntmps9
  go_wp2_with fail
  rw [← hw0]
  clear hw0
  refine (HMy.out w0 HB0.out).mono ?_
  rintro e w1 ⟨rfl, hb1⟩
  have HB1 := Lib.hid hb1
  obtain ⟨x0, x1, x2, x3, x4, x5, x6⟩ := Hst.out w1 hb1
  clear hb1 HMy
  cases my with
  | false =>
    have hR : R = ([], 43) := HFm.out
    subst hR
    clear HFm HMq HCk
    go_wp2_with fail
    go_ret2
    exact ⟨⟨_, rfl, SlV.nil_ _ _ _⟩, bot HB0.out HB1.out⟩
  | true =>
  obtain ⟨hmp, hmz, hlp, hlz⟩ := HMq.out rfl
  have HCk2 := Lib.hid (HCk.out rfl)
  have HFm2 : Hid (R = if emptyQ s = true then ([], 0) else (sortS (imgU s), 0)) := by unfold Hid; rw [HFm.out, if_pos rfl]
  rw [hmp] at HPm
  rw [hlp] at HLk
  clear HFm HMq HCk hmp hlp
  generalize maniText s.man = mt at *
  generalize lockText s.nodes = lt at *
  go_wp2_with fail
  refine (HSm.out w1 (bot HB0.out HB1.out)).mono ?_
  rintro e w2 ⟨rfl, hb2⟩
  have HB2 := Lib.hid (bot HB1.out hb2)
  obtain ⟨x0, x1, x2, x3, x4, x5, x6⟩ := Hst.out w2 HB2.out
  clear hb2 HSm HB1
  cases hem : emptyQ s with
  | true =>
    have hR : R = ([], 0) := by rw [HFm2.out, if_pos hem]
    subst hR
    have h4 := HEq.out
    rw [hem] at h4
    have h4' := h4.symm
    simp only [Bool.and_eq_true, decide_eq_true_eq, Bool.not_eq_true'] at h4'
    obtain ⟨g1, g2, g3, g4⟩ := h4'
    have e4b : ((n4 : Int) == 1) = true := by simp; omega
    have e5b : ((n5 : Int) == 1) = true := by simp; omega
    rw [g1]
    rw [g4] at x6
    clear HFm2 hem h4 g1 g2 g3 g4 HEq
    go_wp2_with fail
    go_ret2
    exact ⟨⟨_, rfl, SlV.nil_ _ _ _⟩, bot HB0.out HB2.out⟩
  | false =>
  have hR : R = (sortS (imgU s), 0) := by rw [HFm2.out, if_neg (by rw [hem]; decide)]
  subst hR
  have HEf : Hid ((eqB s.man man0 && (decide (n4 = 1) && (decide (n5 = 1) && !s.pruned))) = false) := by unfold Hid; rw [← HEq.out]; exact hem
  clear HFm2 hem HEq
  go_upto_region 5 with fail
  go_cut [42] from 23 (fun u wx => u = .bool false ∧ wx = w2)
  case first =>
    generalize eqB s.man man0 = q at *
    generalize s.pruned = pq at *
    cases q with
    | false =>
      clear HEf
      go_wp2_with fail
      go_meet
      exact ⟨rfl, rfl⟩
    | true =>
      by_cases e4 : n4 = 1
      case neg =>
        have e4b : ((n4 : Int) == 1) = false := by simp; omega
        clear HEf e4
        go_wp2_with fail
        go_meet
        exact ⟨rfl, rfl⟩
      have e4b : ((n4 : Int) == 1) = true := by simp; omega
      by_cases e5 : n5 = 1
      case neg =>
        have e5b : ((n5 : Int) == 1) = false := by simp; omega
        clear HEf e4 e5
        go_wp2_with fail
        go_meet
        exact ⟨rfl, rfl⟩
      have e5b : ((n5 : Int) == 1) = true := by simp; omega
      cases pq with
      | true =>
        clear HEf e4 e5
        go_wp2_with fail
        go_meet
        exact ⟨rfl, rfl⟩
      | false =>
        have := HEf.out
        rw [decide_eq_true e4, decide_eq_true e5] at this
        cases this
  case rest =>
  obtain ⟨hu, hw⟩ := hcut
  subst hu
  subst hw
  clear HEf
  go_wp2_with fail
  refine (HPm.out _ (bot HB0.out HB2.out)).mono ?_
  rintro e w3 ⟨rfl, hb3⟩
  have HB3 := Lib.hid (bot HB2.out hb3)
  obtain ⟨x0, x1, x2, x3, x4, x5, x6⟩ := Hst.out w3 HB3.out
  clear hb3 HPm HB2
  go_wp2_with fail
  refine (HLk.out _ (bot HB0.out HB3.out)).mono ?_
  rintro e w4 ⟨rfl, hb4⟩
  have HB4 := Lib.hid (bot HB3.out hb4)
  clear hb4 HLk HB3 x0 x1 x2 x3 x4 x5 x6
  go_wp2_with fail
  refine (put15_sort [] ⟨manF, false, mt⟩ none 0 0 w4 (SlV.nil_ _ _ _) (fun _ => rfl) (by decide) (show manF.size ≤ maxLen by decide) (bytes_small hmz (by decide))).mono ?_
  rintro e w5 ⟨⟨A6, n6, c6, rfl, h6⟩, hb5⟩
  have HB5 := Lib.hid (bot HB4.out hb5)
  have HS5 := Lib.hid h6
  clear hb5 h6 HB4
  go_wp2_with fail
  refine (put15_sort _ ⟨lokF, false, lt⟩ A6 n6 c6 w5 HS5.out (fun h => by cases h) (show (1 : Nat) ≤ 1000000 by decide) (show lokF.size ≤ maxLen by decide) (bytes_small hlz (by decide))).mono ?_
  rintro e w6 ⟨⟨A7, n7, c7, rfl, h7⟩, hb6⟩
  rw [show ([] ++ [(⟨manF, false, mt⟩ : File)]) ++ [⟨lokF, false, lt⟩] = imgHead s from Hhd.out.symm] at h7
  have HB6 := Lib.hid (bot HB5.out hb6)
  have HS6 := Lib.hid h7
  clear hb6 h7 HB5 HS5
  obtain ⟨x0, x1, x2, x3, x4, x5, x6⟩ := Hst.out w6 HB6.out
  obtain ⟨pq, hpq⟩ : ∃ b, b = s.pruned := ⟨_, rfl⟩
  rw [← hpq] at x6
  have Hpq := Lib.hid hpq
  clear hpq
  go_upto_if 64 with fail
  go_cut [10] from 63 (fun v wx => ∃ A n c, v = .slice A n c ∧ Hid (SlV rFile wx (fun _ => True) (sortS (imgHead s ++ imgPru s)) (.slice A n c)) ∧ Hid (Below w0.heap.size w0 wx))
  case first =>
    cases pq with
    | true =>
      have hpr : s.pruned = true := Hpq.out.symm
      have Hac : Hid (imgHead s ++ [(⟨pruF, false, emB⟩ : File)] = imgHead s ++ imgPru s) := by unfold Hid; rw [Hpr.out, if_pos hpr]
      have Hhl : Hid ((imgHead s).length = 2) := by unfold Hid; rw [Hhd.out]; rfl
      clear hpr Hpq
      go_wp2_with fail
      refine (put15_sort _ ⟨pruF, false, emB⟩ A7 n7 c7 w6 HS6.out (fun h => by have := Hhl.out; rw [h] at this; cases this) (by rw [Hhl.out]; decide) (by decide) (by decide)).mono ?_
      rintro e w7 ⟨⟨A8, n8, c8, rfl, h8⟩, hb7⟩
      rw [Hac.out] at h8
      have HB7 := Lib.hid (bot HB6.out hb7)
      have HS7 := Lib.hid h8
      clear hb7 h8 HB6 HS6 Hac Hhl
      go_wp2_with fail
      go_meet
      exact ⟨_, _, _, rfl, HS7, HB7⟩
    | false =>
      have hpr : s.pruned = false := Hpq.out.symm
      have Hac : Hid (imgHead s = imgHead s ++ imgPru s) := by unfold Hid; rw [Hpr.out, if_neg (by rw [hpr]; decide), List.append_nil]
      clear hpr Hpq
      have h8 := HS6.out
      rw [Hac.out] at h8
      have HS7 := Lib.hid h8
      clear h8 HS6 Hac
      go_wp2_with fail
      go_meet
      exact ⟨_, _, _, rfl, HS7, HB6⟩
  case rest =>
  obtain ⟨A8, n8, c8, hu, HS8, HB8⟩ := hcut
  subst hu
  clear x0 x1 x2 x3 x4 x5 x6 HB6 HS6 Hhd Hpr
  obtain ⟨x0, x1, x2, x3, x4, x5, x6⟩ := Hst.out _ HB8.out
  have hac2 : (imgHead s ++ imgPru s).length ≤ 3 ∧ 0 < (imgHead s ++ imgPru s).length := by
    unfold imgHead imgPru
    rw [List.length_append]
    split <;> simp
  have hz257 := (dirs_len HCk2.out)
  rw [← Hn.out] at hz257
  generalize imgHead s ++ imgPru s = acc1 at *
  have Hd1 : Hid (acc1 ++ imgDirs s.dirs 0 (s.dirs.take 1) = acc1 ++ (if insideL s.dirs 0 = [] then [] else [⟨modF, true, emB⟩])) := by
    unfold Hid
    obtain ⟨d, hd⟩ : ∃ d, s.dirs[0]? = some d := ⟨_, List.getElem?_eq_getElem (by rw [← Hn.out]; omega)⟩
    rw [imgDirs_take (xs := s.dirs) (l := s.dirs) (k := 0) hd]
    rfl
  have Hr0 := Lib.hid (root_inside HCk2.out)
  go_upto_if 72 with fail
  go_cut [10] from 68 (fun v wx => ∃ A n c, v = .slice A n c ∧ Hid (SlV rFile wx (fun _ => True) (sortS (acc1 ++ imgDirs s.dirs 0 (s.dirs.take 1))) (.slice A n c)) ∧ Hid (Below w0.heap.size w0 wx))
  case first =>
    by_cases h1 : 1 < n5
    · have hI : (1 : Int) < (n5 : Int) := by omega
      have Hac : Hid (acc1 ++ [(⟨modF, true, emB⟩ : File)] = acc1 ++ imgDirs s.dirs 0 (s.dirs.take 1)) := by
        unfold Hid
        rw [Hd1.out, if_neg (fun e => by have := Hr0.out.1 e; rw [← Hn.out] at this; omega)]
      clear h1 Hd1 Hr0
      go_wp2_with fail
      refine (put15_sort _ ⟨modF, true, emB⟩ A8 n8 c8 _ HS8.out (fun h => by rw [h] at hac2; have := hac2.2; simp at this) (by omega) (by decide) (by decide)).mono ?_
      rintro e w9 ⟨⟨A9, n9, c9, rfl, h9⟩, hb9⟩
      rw [Hac.out] at h9
      have HB9 := Lib.hid (bot HB8.out hb9)
      have HS9 := Lib.hid h9
      clear hb9 h9 HB8 HS8 Hac
      go_wp2_with fail
      go_meet
      exact ⟨_, _, _, rfl, HS9, HB9⟩
    · have hI : ¬ (1 : Int) < (n5 : Int) := by omega
      have h9 := HS8.out
      rw [show acc1 = acc1 ++ imgDirs s.dirs 0 (s.dirs.take 1) from by rw [Hd1.out, if_pos (Hr0.out.2 (by rw [← Hn.out]; omega)), List.append_nil]] at h9
      have HS9 := Lib.hid h9
      clear h1 h9 HS8 Hd1 Hr0
      go_wp2_with fail
      go_meet
      exact ⟨_, _, _, rfl, HS9, HB8⟩
  case rest =>
  obtain ⟨A9, n9, c9, hu, HS9, HB9⟩ := hcut
  subst hu
  clear x0 x1 x2 x3 x4 x5 x6 HB8 HS8 Hd1 Hr0
  go_wp2_with fail
  have hz91 : 1 ≤ n5 := hz257.1
  go_loopw [10, 11] (fun v i wr => ∃ (k : Nat) (A : Option Addr) (n c : Nat), 1 ≤ k ∧ k ≤ n5 ∧ i = .int .i64 k ∧ v = .slice A n c ∧ Hid (SlV rFile wr (fun _ => True) (sortS (acc1 ++ imgDirs s.dirs 0 (s.dirs.take k))) (.slice A n c)) ∧ Hid (Below w0.heap.size w0 wr)) (fun _ i _ => n5 - (intOf i).toNat)
  case atStart => exact ⟨1, A9, n9, c9, Nat.le_refl _, hz91, rfl, rfl, HS9, HB9⟩
  case round =>
    clear HS9 HB9
    obtain ⟨k, A, n, c, hk1, hk, rfl, rfl, HS, HB⟩ := hrel
    have hk0 : (0 : Int) ≤ (k : Int) := by omega
    have HBw := Lib.hid (bot HB0.out HB.out)
    by_cases hlt : k < n5
    case neg =>
      obtain rfl : n5 = k := by omega
      have hI : ¬ (n5 : Int) < (n5 : Int) := by omega
      have hall : s.dirs.take n5 = s.dirs := List.take_of_length_le (by rw [← Hn.out]; exact Nat.le_refl _)
      have hO := HS.out
      rw [hall, ← HUp.out] at hO
      have HO := Lib.hid hO
      clear HS hall hO
      obtain ⟨x0, x1, x2, x3, x4, x5, x6⟩ := Hst.out _ HB.out
      go_wp2_with fail
      go_ret2
      exact ⟨⟨_, rfl, HO.out⟩, HBw.out⟩
    have hkI : (k : Int) < (n5 : Int) := by omega
    have hkl : k < s.dirs.length := by rw [← Hn.out]; exact hlt
    obtain ⟨d, hd⟩ : ∃ d, s.dirs[k]? = some d := ⟨_, List.getElem?_eq_getElem hkl⟩
    have Htk := Lib.hid (imgDirs_take (xs := s.dirs) hd)
    have HId : Hid (imgDir s.dirs k d = [⟨textB d.path, true, emB⟩, ⟨textB d.path ++ pkgF, false, packText d.pack⟩] ++ (if insideL s.dirs k = [] then [] else [⟨textB d.path ++ modF, true, emB⟩])) := by
      have hk00 : ¬ k = 0 := by omega
      unfold Hid imgDir
      rw [if_neg hk00, if_neg hk00]
    obtain ⟨hpb, hmz2⟩ := dir_pack HCk2.out hd hk1
    have hpp : packP d.pack = (packText d.pack, 0) := by unfold packP; rw [if_pos hpb]
    have hpz : (packText d.pack).size ≤ 4096 := by
      unfold packB at hpb
      simp only [Bool.and_eq_true, decide_eq_true_eq] at hpb
      exact hpb.2.2.2.2.2.2
    have hal : (acc1 ++ imgDirs s.dirs 0 (s.dirs.take k)).length ≤ 900000 := by
      have h1 := imgDirs_len s.dirs (s.dirs.take k) 0
      have h3 := congrArg List.length HUp.out
      have h4 := HUl.out.2
      rw [List.length_append] at h3 ⊢
      rw [List.length_take] at h1
      omega
    have hne1 : 0 < (acc1 ++ imgDirs s.dirs 0 (s.dirs.take k)).length := by rw [List.length_append]; omega
    obtain ⟨b, o, pA, pc, B1, b1, B2, b2, B3, b3, rfl, hb, hp, hpk, hnd, d0, d1, d2, d3, d4, d5, d6, d7, d8⟩ := dir_elem HD.out hd
    have HT2 : Hid (∀ W, Below w.heap.size w W → Calls Tryz.prog 34 #[.slice pA d.path.length pc] W fun e w' => e = .returned (.string (textB d.path)) ∧ W = w') := fun W hW =>
      refText_any pA _ pc d.path W S (Hlen.out d (List.mem_of_getElem? hd)) (hp.belowSize hW)
    have HPp : Hid (∀ W, Below w.heap.size w W → Calls Tryz.prog 35 #[.agg #[.string d.pack.name, .int .i64 d.pack.ver.major, .int .i64 d.pack.ver.minor, .int .i64 d.pack.ver.patch, .slice B1 d.pack.deps.length b1, .slice B2 d.pack.peers.length b2, .slice B3 d.pack.opts.length b3]] W fun e w' => e = .returned (.tuple #[.string (packText d.pack), .int .i64 0]) ∧ Below W.heap.size W w') := fun W hW => by
      have := refPackPrint_any d.pack _ W S (hpk.keep hW)
      rwa [hpp] at this
    have HIn2 := Lib.hid (HIn.out k)
    have HDc : Hid (∀ W, Below w.heap.size w W → W.cell? ⟨b, o + k * 9, none⟩ = some (.slice pA d.path.length pc) ∧ W.cell? ⟨b, o + k * 9 + 1, none⟩ = some (.string d.pack.name) ∧ W.cell? ⟨b, o + k * 9 + 2, none⟩ = some (.int .i64 d.pack.ver.major) ∧ W.cell? ⟨b, o + k * 9 + 3, none⟩ = some (.int .i64 d.pack.ver.minor) ∧ W.cell? ⟨b, o + k * 9 + 4, none⟩ = some (.int .i64 d.pack.ver.patch) ∧ W.cell? ⟨b, o + k * 9 + 5, none⟩ = some (.slice B1 d.pack.deps.length b1) ∧ W.cell? ⟨b, o + k * 9 + 6, none⟩ = some (.slice B2 d.pack.peers.length b2) ∧ W.cell? ⟨b, o + k * 9 + 7, none⟩ = some (.slice B3 d.pack.opts.length b3)) := fun W hW =>
      ⟨below_cell hW d0 hb, below_cell hW d1 hb, below_cell hW d2 hb, below_cell hW d3 hb, below_cell hW d4 hb, below_cell hW d5 hb, below_cell hW d6 hb, below_cell hW d7 hb⟩
    obtain ⟨accK, haccK⟩ : ∃ accK, accK = acc1 ++ imgDirs s.dirs 0 (s.dirs.take k) := ⟨_, rfl⟩
    have HNx : Hid (acc1 ++ imgDirs s.dirs 0 (s.dirs.take (k + 1)) = accK ++ imgDir s.dirs k d) := by unfold Hid; rw [Htk.out, haccK, List.append_assoc]
    rw [← haccK] at HS hal hne1
    have Hpb2 := Lib.hid (show (packText d.pack).size ≤ maxLen from bytes_small hpz (by decide))
    have Hhz := Lib.hid hmz2
    have Hnn : Hid (∀ l : List File, accK ++ l ≠ []) := fun l h => by have := congrArg List.length h; rw [List.length_append, List.length_nil] at this; omega
    clear hd hp hpk hnd Htk haccK hpb hpp hpz hmz2 d0 d1 d2 d3 d4 d5 d6 d7 d8
    generalize imgDir s.dirs k d = idk at *
    generalize insideL s.dirs k = il at *
    generalize textB d.path = hm at *
    generalize packText d.pack = pt at *
    generalize d.pack.deps.length = g1 at *
    generalize d.pack.peers.length = g2 at *
    generalize d.pack.opts.length = g3 at *
    generalize d.pack.name = nm at *
    generalize d.pack.ver.major = v1 at *
    generalize d.pack.ver.minor = v2 at *
    generalize d.pack.ver.patch = v3 at *
    generalize d.path.length = pn at *
    obtain ⟨x0, x1, x2, x3, x4, x5, x6⟩ := Hst.out _ HB.out
    obtain ⟨d0, d1, d2, d3, d4, d5, d6, d7⟩ := HDc.out _ HBw.out
    go_wp2_with fail
    refine (HT2.out _ HBw.out).mono ?_
    rintro e wa ⟨rfl, rfl⟩
    go_wp2_with fail
    refine (HPp.out _ HBw.out).mono ?_
    rintro e wa ⟨rfl, hba⟩
    have HSa := Lib.hid (HS.out.belowSize hba)
    have HBa := Lib.hid (bot HB.out hba)
    clear hba HS HB HBw HPp HT2 x0 x1 x2 x3 x4 x5 x6 d0 d1 d2 d3 d4 d5 d6 d7 HDc
    go_wp2_with fail
    refine (put15_sort accK ⟨hm, true, emB⟩ A n c wa HSa.out (fun h => by rw [h] at hne1; cases hne1) (by omega) (bytes_small Hhz.out (by decide)) (show emB.size ≤ maxLen by decide)).mono ?_
    rintro e wb ⟨⟨Ab, nb, cb, rfl, hb2⟩, hbb⟩
    have HSb := Lib.hid hb2
    have HBb := Lib.hid (bot HBa.out hbb)
    clear hbb hb2 HSa HBa
    have hkz : (hm ++ pkgF).size ≤ 2000 := by rw [ByteArray.size_append]; have : pkgF.size = 8 := rfl; have := Hhz.out; omega
    have hmz : (hm ++ modF).size ≤ 2000 := by rw [ByteArray.size_append]; have : modF.size = 8 := rfl; have := Hhz.out; omega
    have E1 : ∀ W : World, (Op.stringOp .add hm ⟨#[47, 112, 97, 99, 107, 97, 103, 101]⟩).run Tryz.prog W = .ok (.string (hm ++ pkgF)) W := fun W => run_string_add_sum W hm pkgF (by have := Hhz.out; rw [show pkgF.size = 8 from rfl]; omega)
    have E2 : ∀ W : World, (Op.stringOp .add hm ⟨#[47, 109, 111, 100, 117, 108, 101, 115]⟩).run Tryz.prog W = .ok (.string (hm ++ modF)) W := fun W => run_string_add_sum W hm modF (by have := Hhz.out; rw [show modF.size = 8 from rfl]; omega)
    go_wp2_with fail
    refine (put15_sort (accK ++ [⟨hm, true, emB⟩]) ⟨hm ++ pkgF, false, pt⟩ Ab nb cb _ HSb.out (fun h => (Hnn.out _ h).elim) (by rw [List.length_append]; simp; omega) (bytes_small hkz (by decide)) Hpb2.out).mono ?_
    rintro e wc ⟨⟨Ac, nc, cc, rfl, hc2⟩, hbc⟩
    rw [show (accK ++ [(⟨hm, true, emB⟩ : File)]) ++ [⟨hm ++ pkgF, false, pt⟩] = accK ++ [⟨hm, true, emB⟩, ⟨hm ++ pkgF, false, pt⟩] from by rw [List.append_assoc]; rfl] at hc2
    have HSc := Lib.hid hc2
    have HBc := Lib.hid (bot HBb.out hbc)
    clear hbc hc2 HSb HBb
    obtain ⟨x0, x1, x2, x3, x4, x5, x6⟩ := Hst.out _ HBc.out
    go_wp2_with fail
    refine (HIn2.out _ (bot HB0.out HBc.out)).mono ?_
    rintro e wy ⟨⟨iv, rfl, hiv⟩, hby⟩
    obtain ⟨iA, ic, rfl, _, _⟩ := hiv.val
    have HSy := Lib.hid (HSc.out.belowSize hby)
    have HBy := Lib.hid (bot HBc.out hby)
    have hcl : (castL il).length = il.length := by unfold castL; rw [List.length_map]
    clear hiv hby HSc HBc x0 x1 x2 x3 x4 x5 x6
    rw [hcl]
    clear hcl
    by_cases hm0 : il = []
    · have hI2 : ¬ (0 : Int) < ((il.length : Nat) : Int) := by rw [hm0]; decide
      have Hfin : Hid (acc1 ++ imgDirs s.dirs 0 (s.dirs.take (k + 1)) = accK ++ [⟨hm, true, emB⟩, ⟨hm ++ pkgF, false, pt⟩]) := by unfold Hid; rw [HNx.out, HId.out, if_pos hm0, List.append_nil]
      clear hm0 HNx HId
      generalize il.length = iln at *
      go_wp2_with fail
      go_roundw
      case rel => exact ⟨k + 1, _, _, _, by omega, by omega, by go_num, rfl, by unfold Hid; rw [Hfin.out]; exact HSy.out, HBy⟩
      case measure => simp [intOf]; omega
    · have hI2 : (0 : Int) < ((il.length : Nat) : Int) := by have := List.length_pos_iff.2 hm0; omega
      have Hfin : Hid (acc1 ++ imgDirs s.dirs 0 (s.dirs.take (k + 1)) = (accK ++ [⟨hm, true, emB⟩, ⟨hm ++ pkgF, false, pt⟩]) ++ [⟨hm ++ modF, true, emB⟩]) := by unfold Hid; rw [HNx.out, HId.out, if_neg hm0, List.append_assoc]
      clear hm0 HNx HId
      generalize il.length = iln at *
      go_wp2_with fail
      refine (put15_sort (accK ++ [⟨hm, true, emB⟩, ⟨hm ++ pkgF, false, pt⟩]) ⟨hm ++ modF, true, emB⟩ Ac nc cc _ HSy.out (fun h => (Hnn.out _ h).elim) (by rw [List.length_append]; simp; omega) (bytes_small hmz (by decide)) (show emB.size ≤ maxLen by decide)).mono ?_
      rintro e wz ⟨⟨Az, nz, cz, rfl, hz2⟩, hbz⟩
      rw [← Hfin.out] at hz2
      have HSz := Lib.hid hz2
      have HBz := Lib.hid (bot HBy.out hbz)
      clear hbz hz2 HSy HBy
      go_wp2_with fail
      go_roundw
      case rel => exact ⟨k + 1, _, _, _, by omega, by omega, by go_num, rfl, HSz, HBz⟩
      case measure => simp [intOf]; omega
end Go.Proofs.YthbnmehbhpakaaaGreatDoor
