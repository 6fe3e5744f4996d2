/-
  The law of two projects with the same files.
-/
import Derived.Test.YthbnmehbhpakaaaGreatDoorOn35
import Derived.Test.YthbnmehbhpakaaaGreatDoorOn36
import Derived.Test.YthbnmehbhpakaaaGreatDoorOn34
import Derived.Test.YthbnmehbhpakaaaGreatDoorOn32
set_option autoImplicit false
set_option relaxedAutoImplicit false
set_option linter.unusedVariables false
set_option linter.unusedSimpArgs false
namespace Go.Proofs.YthbnmehbhpakaaaGreatDoor
open Go.Rows Go.RowKit Go.Shelf Go.Sort

theorem imgF_may {s : Proj} (h : (imgF s).2 = 0) : mayI s = true := by
  cases hm : mayI s with
  | true => rfl
  | false => unfold imgF at h; rw [if_neg (by rw [hm]; decide)] at h; cases h
theorem imgOne_law {a b : Proj} (ha : (imgF a).2 = 0) (hb : (imgF b).2 = 0) : eqB (imgF a).1 (imgF b).1 = (eqB a.dirs b.dirs && (eqB a.nodes b.nodes && (eqB a.man b.man && (a.pruned == b.pruned)))) := by
  by_cases h : (imgF a).1 = (imgF b).1
  · have e := imgOne (imgF_may ha) (imgF_may hb) h
    rw [e, eqB_true rfl, eqB_true rfl, eqB_true rfl, eqB_true rfl]
    simp
  · rw [eqB_false h]
    symm
    rw [Bool.eq_false_iff]
    intro hc
    simp only [Bool.and_eq_true, beq_iff_eq] at hc
    obtain ⟨h1, h2, h3, h4⟩ := hc
    apply h
    have e : a = b := by
      obtain ⟨a1, a2, a3, a4⟩ := a
      obtain ⟨b1, b2, b3, b4⟩ := b
      simp only at h1 h2 h3 h4
      rw [eqB_iff.1 h1, eqB_iff.1 h2, eqB_iff.1 h3, h4]
    rw [e]

set_option maxHeartbeats 6400000 in
set_option maxRecDepth 100000 in
theorem imageOne_any (a b : Proj) (u v : Value) (w : World) (S : Nat → Prop) (ht : Tab w) (hm : MaxL w) (ha : ProjZ a) (hu : ProjV w S a u) (hb : ProjZ b) (hv : ProjV w S b v) :
    Calls Tryz.prog 6 #[u, v] w fun e w' => e = .returned (.bool true) ∧ Below w.heap.size w w' := by
  have HFa : Hid (∀ W, Below w.heap.size w W → Calls Tryz.prog 8 #[u] W fun e w' => (∃ q, e = .returned (.tuple #[q, .int .i64 (imgF a).2]) ∧ SlV rFile w' (fun b => W.heap.size ≤ b) (imgF a).1 q) ∧ Below W.heap.size W w') := fun W hW => files_any a u W S (tab_below ht hW) ha (hu.keep hW)
  have HFb : Hid (∀ W, Below w.heap.size w W → Calls Tryz.prog 8 #[v] W fun e w' => (∃ q, e = .returned (.tuple #[q, .int .i64 (imgF b).2]) ∧ SlV rFile w' (fun b => W.heap.size ≤ b) (imgF b).1 q) ∧ Below W.heap.size W w') := fun W hW => files_any b v W S (tab_below ht hW) hb (hv.keep hW)
  have Hlv : Hid (∀ W, Below w.heap.size w W → Calls Tryz.prog 11 #[] W fun e w' => e = .returned (.bool true) ∧ Below W.heap.size W w') := fun W hW => lives15_any W (tab_below ht hW) (hm.below hW)
  have Hlaw : Hid ((imgF a).2 = 0 → (imgF b).2 = 0 → eqB (imgF a).1 (imgF b).1 = (eqB a.dirs b.dirs && (eqB a.nodes b.nodes && (eqB a.man b.man && (a.pruned == b.pruned))))) := fun h1 h2 => imgOne_law h1 h2
  obtain ⟨A0, n0, c0, A1, n1, c1, A2, n2, c2, A3, n3, c3, A4, n4, c4, A5, n5, c5, rfl, g0, g1, g2, g3, g4, g5⟩ := hu
  obtain ⟨B0, m0, d0, B1, m1, d1, B2, m2, d2, B3, m3, d3, B4, m4, d4, B5, m5, d5, rfl, k0, k1, k2, k3, k4, k5⟩ := hv
  have HAl : Hid (∀ W, Below w.heap.size w W → Calls Tryz.prog 14 #[.agg #[.slice A5 n5 c5], .agg #[.slice B5 m5 d5]] W fun e w' => e = .returned (.bool (eqB a.dirs b.dirs)) ∧ Below W.heap.size W w') := fun W hW => alike_any _ _ _ _ _ _ _ _ W S S (g5.belowSize hW) (k5.belowSize hW)
  have HGr : Hid (∀ W, Below w.heap.size w W → Calls Tryz.prog 15 #[.agg #[.slice A4 n4 c4], .agg #[.slice B4 m4 d4]] W fun e w' => e = .returned (.bool (eqB a.nodes b.nodes)) ∧ Below W.heap.size W w') := fun W hW => lockSame_any _ _ _ _ _ _ _ _ W S S (g4.belowSize hW) (k4.belowSize hW)
  have HMn : Hid (∀ W, Below w.heap.size w W → Calls Tryz.prog 16 #[.agg #[.slice A0 n0 c0, .slice A1 n1 c1, .slice A2 n2 c2, .slice A3 n3 c3], .agg #[.slice B0 m0 d0, .slice B1 m1 d1, .slice B2 m2 d2, .slice B3 m3 d3]] W fun e w' => e = .returned (.bool (eqB a.man b.man)) ∧ Below W.heap.size W w') := fun W hW =>
    refManiSame_any a.man b.man _ _ W S S ⟨_, _, _, _, _, _, _, _, _, _, _, _, rfl, g0.belowSize hW, g1.belowSize hW, g2.belowSize hW, g3.belowSize hW⟩ ⟨_, _, _, _, _, _, _, _, _, _, _, _, rfl, k0.belowSize hW, k1.belowSize hW, k2.belowSize hW, k3.belowSize hW⟩
  clear g0 g1 g2 g3 g4 g5 k0 k1 k2 k3 k4 k5 ht hm ha hb
  generalize imgF a = RA at *
  generalize imgF b = RB at *
  obtain ⟨LA, ea⟩ := RA
  obtain ⟨LB, eb⟩ := RB
  generalize eqB a.dirs b.dirs = q1 at *
  generalize eqB a.nodes b.nodes = q2 at *
  generalize eqB a.man b.man = q3 at *
  generalize a.pruned = pa at *
  generalize b.pruned = pb at *
  obtain ⟨w0, hw0⟩ : ∃ w0, w0 = (w.alloc (.cells #[.slice A0 n0 c0, .slice A1 n1 c1, .slice A2 n2 c2, .slice A3 n3 c3, .slice A4 n4 c4, .slice A5 n5 c5, .bool pa] 32)).alloc (.cells #[.slice B0 m0 d0, .slice B1 m1 d1, .slice B2 m2 d2, .slice B3 m3 d3, .slice B4 m4 d4, .slice B5 m5 d5, .bool pb] 32) := ⟨_, rfl⟩
  have HB0 : Hid (Below w.heap.size w w0) := by unfold Hid; rw [hw0]; exact bal (bal (Below.refl _ _) _) _
  have HQA : Hid (w0.heap[w.heap.size]? = some (.cells #[.slice A0 n0 c0, .slice A1 n1 c1, .slice A2 n2 c2, .slice A3 n3 c3, .slice A4 n4 c4, .slice A5 n5 c5, .bool pa] 32 (0, 0))) := by
    unfold Hid
    rw [hw0]
    refine ((bal (Below.refl _ _) _).block _ ?_).trans (heap_new _ _)
    simp [go_sem]
  have HQB : Hid (w0.heap[w.heap.size + 1]? = some (.cells #[.slice B0 m0 d0, .slice B1 m1 d1, .slice B2 m2 d2, .slice B3 m3 d3, .slice B4 m4 d4, .slice B5 m5 d5, .bool pb] 32 (0, 0))) := by
    unfold Hid
    rw [hw0]
    have := heap_new (w.alloc (.cells #[.slice A0 n0 c0, .slice A1 n1 c1, .slice A2 n2 c2, .slice A3 n3 c3, .slice A4 n4 c4, .slice A5 n5 c5, .bool pa] 32)) (.cells #[.slice B0 m0 d0, .slice B1 m1 d1, .slice B2 m2 d2, .slice B3 m3 d3, .slice B4 m4 d4, .slice B5 m5 d5, .bool pb] 32)
    rwa [show (w.alloc (.cells #[.slice A0 n0 c0, .slice A1 n1 c1, .slice A2 n2 c2, .slice A3 n3 c3, .slice A4 n4 c4, .slice A5 n5 c5, .bool pa] 32)).heap.size = w.heap.size + 1 from by simp [go_sem]] at this
  have Hst : Hid (∀ W, Below w0.heap.size w0 W → (W.cell? ⟨w.heap.size, 0, none⟩ = some (.slice A0 n0 c0) ∧ W.cell? ⟨w.heap.size, 1, none⟩ = some (.slice A1 n1 c1) ∧ W.cell? ⟨w.heap.size, 2, none⟩ = some (.slice A2 n2 c2) ∧ W.cell? ⟨w.heap.size, 3, none⟩ = some (.slice A3 n3 c3) ∧ W.cell? ⟨w.heap.size, 4, none⟩ = some (.slice A4 n4 c4) ∧ W.cell? ⟨w.heap.size, 5, none⟩ = some (.slice A5 n5 c5) ∧ W.cell? ⟨w.heap.size, 6, none⟩ = some (.bool pa)) ∧ W.cell? ⟨w.heap.size + 1, 0, none⟩ = some (.slice B0 m0 d0) ∧ W.cell? ⟨w.heap.size + 1, 1, none⟩ = some (.slice B1 m1 d1) ∧ W.cell? ⟨w.heap.size + 1, 2, none⟩ = some (.slice B2 m2 d2) ∧ W.cell? ⟨w.heap.size + 1, 3, none⟩ = some (.slice B3 m3 d3) ∧ W.cell? ⟨w.heap.size + 1, 4, none⟩ = some (.slice B4 m4 d4) ∧ W.cell? ⟨w.heap.size + 1, 5, none⟩ = some (.slice B5 m5 d5) ∧ W.cell? ⟨w.heap.size + 1, 6, none⟩ = some (.bool pb)) := fun W hW => by
    have h1 := (hW.block _ (Array.getElem?_eq_some_iff.1 HQA.out).1).trans HQA.out
    have h2 := (hW.block _ (Array.getElem?_eq_some_iff.1 HQB.out).1).trans HQB.out
    exact ⟨⟨cell_of_row _ _ 0 _ _ _ h1, cell_of_row _ _ 1 _ _ _ h1, cell_of_row _ _ 2 _ _ _ h1, cell_of_row _ _ 3 _ _ _ h1, cell_of_row _ _ 4 _ _ _ h1, cell_of_row _ _ 5 _ _ _ h1, cell_of_row _ _ 6 _ _ _ h1⟩, cell_of_row _ _ 0 _ _ _ h2, cell_of_row _ _ 1 _ _ _ h2, cell_of_row _ _ 2 _ _ _ h2, cell_of_row _ _ 3 _ _ _ h2, cell_of_row _ _ 4 _ _ _ h2, cell_of_row _ _ 5 _ _ _ h2, cell_of_row _ _ 6 _ _ _ h2⟩
  clear HQA HQB
  go_enter Tryz.func6, Tryz.ntmps6
  go_wp2_with fail
  rw [← hw0]
  clear hw0
  refine (HFa.out w0 HB0.out).mono ?_
  rintro e w1 ⟨⟨u1, rfl, h1⟩, hb1⟩
  obtain ⟨X1, e1, rfl, _, _⟩ := h1.val
  have HB1 := Lib.hid hb1
  have HS1 := Lib.hid (h1.more (S' := fun _ => True) fun _ _ _ => trivial)
  obtain ⟨⟨x0, x1, x2, x3, x4, x5, x6⟩, y0, y1, y2, y3, y4, y5, y6⟩ := Hst.out w1 hb1
  clear hb1 h1 HFa
  go_wp2_with fail
  refine (HFb.out w1 (bot HB0.out HB1.out)).mono ?_
  rintro e w2 ⟨⟨u2, rfl, h2⟩, hb2⟩
  obtain ⟨X2, e2, rfl, _, _⟩ := h2.val
  have HB2 := Lib.hid (bot HB1.out hb2)
  have HS2 := Lib.hid (h2.more (S' := fun _ => True) fun _ _ _ => trivial)
  have HS1' := Lib.hid (HS1.out.belowSize hb2)
  clear x0 x1 x2 x3 x4 x5 x6 y0 y1 y2 y3 y4 y5 y6 hb2 h2 HB1 HFb HS1
  by_cases hea : ea = 0
  case neg =>
    have hb : (ea != 0) = true := by simp [hea]
    clear hea Hlaw HS1' HS2 HAl HGr HMn Hst
    go_wp2_with fail
    refine (Hlv.out w2 (bot HB0.out HB2.out)).mono ?_
    rintro e w4 ⟨rfl, hb4⟩
    have HB4 := Lib.hid (bot (bot HB0.out HB2.out) hb4)
    clear hb4 Hlv
    go_wp2_with fail
    go_ret
    exact ⟨rfl, HB4.out⟩
  by_cases heb : eb = 0
  case neg =>
    have hb0 : (ea != 0) = false := by simp [hea]
    have hb : (eb != 0) = true := by simp [heb]
    clear hea heb Hlaw HS1' HS2 HAl HGr HMn Hst
    go_wp2_with fail
    refine (Hlv.out w2 (bot HB0.out HB2.out)).mono ?_
    rintro e w4 ⟨rfl, hb4⟩
    have HB4 := Lib.hid (bot (bot HB0.out HB2.out) hb4)
    clear hb4 Hlv
    go_wp2_with fail
    go_ret
    exact ⟨rfl, HB4.out⟩
  have Hr := Lib.hid (Hlaw.out hea heb)
  have hb0 : (ea != 0) = false := by simp [hea]
  have hb1 : (eb != 0) = false := by simp [heb]
  clear hea heb Hlaw
  generalize LA.length = NA at *
  generalize LB.length = NB at *
  go_wp2_with fail
  refine (files15_any _ _ _ _ _ _ LA LB w2 _ _ HS1'.out HS2.out).mono ?_
  rintro e w3 ⟨rfl, hb3⟩
  have HB3 := Lib.hid (bot HB2.out hb3)
  obtain ⟨⟨x0, x1, x2, x3, x4, x5, x6⟩, y0, y1, y2, y3, y4, y5, y6⟩ := Hst.out w3 HB3.out
  clear hb3 HB2 HS1' HS2 hb0 hb1
  generalize eqB LA LB = r at *
  go_wp2_with fail
  refine (HAl.out w3 (bot HB0.out HB3.out)).mono ?_
  rintro e w4 ⟨rfl, hb4⟩
  have HB4 := Lib.hid (bot HB3.out hb4)
  clear x0 x1 x2 x3 x4 x5 x6 y0 y1 y2 y3 y4 y5 y6
  obtain ⟨⟨x0, x1, x2, x3, x4, x5, x6⟩, y0, y1, y2, y3, y4, y5, y6⟩ := Hst.out w4 HB4.out
  clear hb4 HB3 HAl
  go_wp2_with fail
  refine (HGr.out w4 (bot HB0.out HB4.out)).mono ?_
  rintro e w5 ⟨rfl, hb5⟩
  have HB5 := Lib.hid (bot HB4.out hb5)
  clear x0 x1 x2 x3 x4 x5 x6 y0 y1 y2 y3 y4 y5 y6
  obtain ⟨⟨x0, x1, x2, x3, x4, x5, x6⟩, y0, y1, y2, y3, y4, y5, y6⟩ := Hst.out w5 HB5.out
  clear hb5 HB4 HGr
  go_wp2_with fail
  refine (HMn.out w5 (bot HB0.out HB5.out)).mono ?_
  rintro e w6 ⟨rfl, hb6⟩
  have HB6 := Lib.hid (bot HB5.out hb6)
  clear x0 x1 x2 x3 x4 x5 x6 y0 y1 y2 y3 y4 y5 y6
  obtain ⟨⟨x0, x1, x2, x3, x4, x5, x6⟩, y0, y1, y2, y3, y4, y5, y6⟩ := Hst.out w6 HB6.out
  clear hb6 HB5 HMn Hst x0 x1 x2 x3 x4 x5 y0 y1 y2 y3 y4 y5
  have Hend : Hid (Calls Tryz.prog 11 #[] w6 fun e w' => e = .returned (.bool true) ∧ Below w.heap.size w w') := (Hlv.out w6 (bot HB0.out HB6.out)).mono fun e w' h => ⟨h.1, bot (bot HB0.out HB6.out) h.2⟩
  clear Hlv HB0 HB6
  cases q1 with
  | false =>
    have hr : r = false := by rw [Hr.out]; rfl
    subst hr
    clear Hr
    go_wp2_with fail
    refine Hend.out.mono ?_
    rintro e w7 ⟨rfl, hb7⟩
    have HB7 := Lib.hid hb7
    clear hb7 Hend
    go_wp2_with fail
    go_ret
    exact ⟨rfl, HB7.out⟩
  | true =>
  cases q2 with
  | false =>
    have hr : r = false := by rw [Hr.out]; rfl
    subst hr
    clear Hr
    go_wp2_with fail
    refine Hend.out.mono ?_
    rintro e w7 ⟨rfl, hb7⟩
    have HB7 := Lib.hid hb7
    clear hb7 Hend
    go_wp2_with fail
    go_ret
    exact ⟨rfl, HB7.out⟩
  | true =>
  cases q3 with
  | false =>
    have hr : r = false := by rw [Hr.out]; rfl
    subst hr
    clear Hr
    go_wp2_with fail
    refine Hend.out.mono ?_
    rintro e w7 ⟨rfl, hb7⟩
    have HB7 := Lib.hid hb7
    clear hb7 Hend
    go_wp2_with fail
    go_ret
    exact ⟨rfl, HB7.out⟩
  | true =>
  cases pa <;> cases pb
  · have hr : r = true := by rw [Hr.out]; rfl
    subst hr
    clear Hr
    go_wp2_with fail
    refine Hend.out.mono ?_
    rintro e w7 ⟨rfl, hb7⟩
    have HB7 := Lib.hid hb7
    clear hb7 Hend
    go_wp2_with fail
    go_ret
    exact ⟨rfl, HB7.out⟩
  · have hr : r = false := by rw [Hr.out]; rfl
    subst hr
    clear Hr
    go_wp2_with fail
    refine Hend.out.mono ?_
    rintro e w7 ⟨rfl, hb7⟩
    have HB7 := Lib.hid hb7
    clear hb7 Hend
    go_wp2_with fail
    go_ret
    exact ⟨rfl, HB7.out⟩
  · have hr : r = false := by rw [Hr.out]; rfl
    subst hr
    clear Hr
    go_wp2_with fail
    refine Hend.out.mono ?_
    rintro e w7 ⟨rfl, hb7⟩
    have HB7 := Lib.hid hb7
    clear hb7 Hend
    go_wp2_with fail
    go_ret
    exact ⟨rfl, HB7.out⟩
  · have hr : r = true := by rw [Hr.out]; rfl
    subst hr
    clear Hr
    go_wp2_with fail
    refine Hend.out.mono ?_
    rintro e w7 ⟨rfl, hb7⟩
    have HB7 := Lib.hid hb7
    clear hb7 Hend
    go_wp2_with fail
    go_ret
    exact ⟨rfl, HB7.out⟩
end Go.Proofs.YthbnmehbhpakaaaGreatDoor
