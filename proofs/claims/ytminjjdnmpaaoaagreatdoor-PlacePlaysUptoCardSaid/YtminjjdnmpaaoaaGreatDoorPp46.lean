/-
  The law that the program's placer plays as the document's: walked.
-/
import Derived.Test.YtminjjdnmpaaoaaGreatDoorPp45
set_option autoImplicit false
set_option relaxedAutoImplicit false
set_option linter.unusedVariables false
set_option linter.unusedSimpArgs false
namespace Go.Proofs.YtminjjdnmpaaoaaGreatDoor
open Go.Rows Go.RowKit Go.Shelf Go.Sort

/-- a row's cells stand where nothing old is turned -/
theorem OldV.ptr {w : World} {S : Nat → Prop} {ov : Value} {old : Option (List Dir)} (h : OldV w S ov old) : ∃ p, ov = .pointer p := by
  rcases h with ⟨_, h⟩ | ⟨b, o, _, _, _, _, _, h, _⟩
  · exact ⟨_, h⟩
  · exact ⟨_, h⟩
/-- what is placed by both -/
def qW (g : List Node) (ps : List Pack) (x : Wd) : PlIn := ⟨g, ps, x.lim.dirs, x.lim.path, if x.like = true then some x.old else none⟩

section
variable {gA pA : Option Addr} {gn gc pn pc : Nat} {g : List Node} {ps : List Pack} {x : Wd} {w : World} {S : Nat → Prop}
variable {oA : Option Addr} {on oc : Nat}
/-- place.Run at a world's limits -/
theorem runW_any (ht : Tab w) (hg : SlV rNode w S g (.slice gA gn gc)) (hp : SlV rPack w S ps (.slice pA pn pc)) (hgz : g.length ≤ 1048576) (hpz : PacksZ ps) (hi : I64 x.lim.dirs ∧ I64 x.lim.path) (W : World) (hW : Below w.heap.size w W) (p : Option Addr) (ho : OldV W (fun b => b < W.heap.size) (.pointer p) (qW g ps x).old) :
    Calls Tryz.prog 11 #[.agg #[.slice gA gn gc], .slice pA pn pc, .agg #[.int .i64 x.lim.dec, .int .i64 x.lim.nod, .int .i64 x.lim.dirs, .int .i64 x.lim.path], .pointer p] W fun e w' =>
      (∃ A n c, e = .returned (.tuple #[.agg #[.slice A n c], .int .i64 (placeR (qW g ps x)).2]) ∧ SlV rDir w' (fun b => W.heap.size ≤ b) (placeR (qW g ps x)).1 (.slice A n c)) ∧ Below W.heap.size W w' :=
  (placeRun_any gA gn gc pA pn pc x.lim.dec x.lim.nod (.pointer p) (qW g ps x) W (fun b => b < W.heap.size) (tab_below ht hW) ((hg.belowSize hW).more fun b _ h => h) ((hp.belowSize hW).more fun b _ h => h) ho hi.1 hi.2 hgz hpz.1 hpz.2).mono fun e w' ⟨rv, h1, h2, h3⟩ => by
    obtain ⟨A, c, rfl, _, _⟩ := h2.val
    exact ⟨⟨A, _, c, h1, h2⟩, h3⟩
theorem refRunW_any (ht : Tab w) (hg : SlV rNode w S g (.slice gA gn gc)) (hp : SlV rPack w S ps (.slice pA pn pc)) (hgz : g.length ≤ 1048576) (hpz : PacksZ ps) (hi : I64 x.lim.dirs ∧ I64 x.lim.path) (ho : SlV rDir w S x.old (.slice oA on oc)) (hoz : WdZ x) (W : World) (hW : Below w.heap.size w W) :
    Calls Tryz.prog 13 #[.agg #[.slice gA gn gc], .slice pA pn pc, .agg #[.int .i64 x.lim.dec, .int .i64 x.lim.nod, .int .i64 x.lim.dirs, .int .i64 x.lim.path], .agg #[.slice oA on oc], .bool x.like] W fun e w' =>
      (∃ A n c, e = .returned (.tuple #[.agg #[.slice A n c], .int .i64 (placeR (qW g ps x)).2]) ∧ SlV rDir w' (fun _ => True) (placeR (qW g ps x)).1 (.slice A n c)) ∧ Below W.heap.size W w' :=
  (refPlaceRun_any gA gn gc pA pn pc x.lim.dec x.lim.nod oA on oc x.like x.old (qW g ps x) W S (tab_below ht hW) (hg.belowSize hW) (hp.belowSize hW) (ho.belowSize hW) rfl hoz hi.1 hi.2 hgz hpz.1).mono fun e w' ⟨rv, h1, h2, h3⟩ => by
    obtain ⟨A, c, rfl, _, _⟩ := h2.val
    exact ⟨⟨A, _, c, h1, h2⟩, h3⟩
end
theorem box_first {w0 w2 : World} (hb : Below (w0.alloc (Obj.cells #[.slice none 0 0] 33)).drew.heap.size (w0.alloc (Obj.cells #[.slice none 0 0] 33)).drew w2) : w2.cell? ⟨w0.heap.size, 0, none⟩ = some (.slice none 0 0) ∧ w2.frozen? ⟨w0.heap.size, 0, none⟩ = false := by
  have h : w2.heap[w0.heap.size]? = some (.cells #[.slice none 0 0] 33 (0, 0)) := (hb.block _ (by show w0.heap.size < (w0.alloc (.cells #[.slice none 0 0] 33)).heap.size; simp)).trans (heap_new w0 _)
  exact ⟨cell_of_row _ _ 0 _ _ _ h, frozen_of_row _ _ 0 _ _ h⟩
theorem box_mid {w2 w3 : World} (hb : Below (w2.alloc (Obj.cells #[.slice none 0 0] 33)).heap.size (w2.alloc (Obj.cells #[.slice none 0 0] 33)) w3) : w3.cell? ⟨w2.heap.size, 0, none⟩ = some (.slice none 0 0) ∧ w3.frozen? ⟨w2.heap.size, 0, none⟩ = false := by
  have h : w3.heap[w2.heap.size]? = some (.cells #[.slice none 0 0] 33 (0, 0)) := (hb.block _ (by simp)).trans (heap_new w2 _)
  exact ⟨cell_of_row _ _ 0 _ _ _ h, frozen_of_row _ _ 0 _ _ h⟩
theorem box_kept {w2 w3 : World} {B : Nat} {v : Value} (hb : Below w2.heap.size w2 w3) (h : w2.cell? ⟨B, 0, none⟩ = some v) (f : w2.frozen? ⟨B, 0, none⟩ = false) : w3.cell? ⟨B, 0, none⟩ = some v ∧ w3.frozen? ⟨B, 0, none⟩ = false :=
  ⟨below_cell hb h (cell_lt h), (frozen_same (hb.block _ (cell_lt h)) _ _).trans f⟩
theorem box_set {w0 w3 : World} {TB N : Nat} {v u : Value} {R1 : List Dir} (hB : Below w0.heap.size w0 w3) (hz : w0.heap.size ≤ TB) (hT : w3.cell? ⟨TB, 0, none⟩ = some u) (hrv : SlV rDir w3 (fun b => N ≤ b) R1 v) (hN : TB < N) :
    Below w0.heap.size w0 (w3.setCell ⟨TB, 0, none⟩ v) ∧ (w3.setCell ⟨TB, 0, none⟩ v).cell? ⟨TB, 0, none⟩ = some v ∧ TB < (w3.setCell ⟨TB, 0, none⟩ v).heap.size ∧ SlV rDir (w3.setCell ⟨TB, 0, none⟩ v) (fun _ => True) R1 v :=
  ⟨hB.setCell hz _, cell_set_same hT, by have := cell_lt hT; simpa using this, (hrv.keep fun b hb _ => heap_setCell_other w3 ⟨TB, 0, none⟩ b v (by show b ≠ TB; omega)).more fun _ _ _ => trivial⟩
set_option maxHeartbeats 6400000 in
set_option maxRecDepth 100000 in
theorem placePlays_any (gA : Option Addr) (gn gc : Nat) (g : List Node) (pA : Option Addr) (pn pc : Nat) (ps : List Pack) (x : Wd) (v : Value) (w : World) (S : Nat → Prop) (ht : Tab w) (hg : SlV rNode w S g (.slice gA gn gc)) (hgz : g.length ≤ 1048576) (hp : SlV rPack w S ps (.slice pA pn pc)) (hpz : PacksZ ps) (hv : WdV w S x v) (hxz : WdZ x) :
    Calls Tryz.prog 3 #[.agg #[.slice gA gn gc], .slice pA pn pc, v] w fun e w' => e = .returned (.bool true) ∧ Below w.heap.size w w' := by
  obtain ⟨kA, kn, kc, mA, mn, mc, nA, nn, nc, lA, ln, lc, vA, vn, vc, oA, on, oc, rfl, _, _, _, _, _, h5, hi0, hi1, hi2, hi3⟩ := hv
  have HOld : Hid (∀ W, Below w.heap.size w W → Calls Tryz.prog 12 #[.agg #[.slice kA kn kc, .slice mA mn mc, .slice nA nn nc, .slice lA ln lc, .slice vA vn vc, .bool x.dev, .int .i64 x.lim.dec, .int .i64 x.lim.nod, .int .i64 x.lim.dirs, .int .i64 x.lim.path, .slice oA on oc, .bool x.like]] W fun e w' => ∃ p, e = .returned (.pointer p) ∧ OldV w' (fun b => b < w'.heap.size) (.pointer p) (qW g ps x).old ∧ Below W.heap.size W w') := fun W hW =>
    (oldW_any kA mA nA lA vA kn kc mn mc nn nc ln lc vn vc x.dev x.lim.dec x.lim.nod x.lim.dirs x.lim.path oA on oc x.like x.old W S (h5.belowSize hW) hxz).mono fun e w' ⟨ov, h1, h2, h3⟩ => by
      obtain ⟨p, rfl⟩ := h2.ptr
      exact ⟨p, h1, h2, h3⟩
  have HRun := Lib.hid (runW_any (x := x) ht hg hp hgz hpz ⟨hi2, hi3⟩)
  have HRef := Lib.hid (refRunW_any (x := x) ht hg hp hgz hpz ⟨hi2, hi3⟩ h5 hxz)
  have HLv : Hid (∀ W, Below w.heap.size w W → Calls Tryz.prog 15 #[] W fun e w' => e = .returned (.bool true) ∧ Below W.heap.size W w') := fun W hW => lives_any W (tab_below ht hW)
  have HAl : Hid (∀ W A n c B m d (T U : Nat → Prop), SlV rDir W T (placeR (qW g ps x)).1 (.slice A n c) → SlV rDir W U (placeR (qW g ps x)).1 (.slice B m d) → Calls Tryz.prog 14 #[.agg #[.slice A n c], .agg #[.slice B m d]] W fun e w' => e = .returned (.bool true) ∧ Below W.heap.size W w') := fun W A n c B m d T U h1 h2 => by
    have := alike_any A B n c m d _ _ W T U h1 h2
    rwa [eqB_true rfl] at this
  clear ht hg hp hgz hpz h5 hi0 hi1 hi2 hi3 hxz
  generalize placeR (qW g ps x) = RR at *
  generalize (qW g ps x).old = qo at *
  obtain ⟨R1, R2⟩ := RR
  generalize x.lim.dec = ldec at *
  generalize x.lim.nod = lnod at *
  generalize x.lim.dirs = ldirs at *
  generalize x.lim.path = lpath at *
  generalize x.dev = xdev at *
  generalize x.like = xlike at *
  obtain ⟨w0, hw0⟩ : ∃ w0, w0 = (w.alloc (.cells #[.slice gA gn gc] 24)).alloc (.cells #[.slice kA kn kc, .slice mA mn mc, .slice nA nn nc, .slice lA ln lc, .slice vA vn vc, .bool xdev, .int .i64 ldec, .int .i64 lnod, .int .i64 ldirs, .int .i64 lpath, .slice oA on oc, .bool xlike] 35) := ⟨_, rfl⟩
  have hw1 : (w.alloc (.cells #[.slice gA gn gc] 24)).heap.size = w.heap.size + 1 := by simp
  have HB0 : Hid (Below w.heap.size w w0) := by unfold Hid; rw [hw0]; exact bal (bal (Below.refl _ _) _) _
  have hqG : w0.heap[w.heap.size]? = some (.cells #[.slice gA gn gc] 24 (0, 0)) := by
    rw [hw0]
    exact ((bal (Below.refl _ _) _).block _ (by rw [hw1]; omega)).trans (heap_new _ _)
  have hqW : w0.heap[w.heap.size + 1]? = some (.cells #[.slice kA kn kc, .slice mA mn mc, .slice nA nn nc, .slice lA ln lc, .slice vA vn vc, .bool xdev, .int .i64 ldec, .int .i64 lnod, .int .i64 ldirs, .int .i64 lpath, .slice oA on oc, .bool xlike] 35 (0, 0)) := by
    rw [hw0, ← hw1]
    exact heap_new _ _
  obtain ⟨GB, hGB⟩ : ∃ k, k = w.heap.size := ⟨_, rfl⟩
  obtain ⟨QB, hQB⟩ : ∃ k, k = w.heap.size + 1 := ⟨_, rfl⟩
  have Hcell : Hid (∀ W, Below w0.heap.size w0 W → W.cell? ⟨GB, 0, none⟩ = some (.slice gA gn gc) ∧ W.cell? ⟨QB, 0, none⟩ = some (.slice kA kn kc) ∧ W.cell? ⟨QB, 1, none⟩ = some (.slice mA mn mc) ∧ W.cell? ⟨QB, 2, none⟩ = some (.slice nA nn nc) ∧ W.cell? ⟨QB, 3, none⟩ = some (.slice lA ln lc) ∧ W.cell? ⟨QB, 4, none⟩ = some (.slice vA vn vc) ∧ W.cell? ⟨QB, 5, none⟩ = some (.bool xdev) ∧ W.cell? ⟨QB, 6, none⟩ = some (.int .i64 ldec) ∧ W.cell? ⟨QB, 7, none⟩ = some (.int .i64 lnod) ∧ W.cell? ⟨QB, 8, none⟩ = some (.int .i64 ldirs) ∧ W.cell? ⟨QB, 9, none⟩ = some (.int .i64 lpath) ∧ W.cell? ⟨QB, 10, none⟩ = some (.slice oA on oc) ∧ W.cell? ⟨QB, 11, none⟩ = some (.bool xlike)) := fun W hW => by
    rw [hGB, hQB]
    have h1 := (hW.block _ (Array.getElem?_eq_some_iff.1 hqG).1).trans hqG
    have h2 := (hW.block _ (Array.getElem?_eq_some_iff.1 hqW).1).trans hqW
    exact ⟨cell_of_row _ _ 0 _ _ _ h1, cell_of_row _ _ 0 _ _ _ h2, cell_of_row _ _ 1 _ _ _ h2, cell_of_row _ _ 2 _ _ _ h2, cell_of_row _ _ 3 _ _ _ h2, cell_of_row _ _ 4 _ _ _ h2, cell_of_row _ _ 5 _ _ _ h2, cell_of_row _ _ 6 _ _ _ h2, cell_of_row _ _ 7 _ _ _ h2, cell_of_row _ _ 8 _ _ _ h2, cell_of_row _ _ 9 _ _ _ h2, cell_of_row _ _ 10 _ _ _ h2, cell_of_row _ _ 11 _ _ _ h2⟩
  have hcell0 := Hcell.out w0 (Below.refl _ _)
  clear hqG hqW hw1
  go_enter Tryz.func3, Tryz.ntmps3
  go_upto_region 1 with (fail)
  rw [← hw0, ← hQB, ← hGB]
  clear hw0 hQB hGB
  go_cut [7, 8] from 12 to 21 (fun v7 v8 wx => ∃ (TB : Nat) (A : Option Addr) (n c : Nat), v7 = .pointer (some ⟨TB, 0, none⟩) ∧ v8 = .int .i64 R2 ∧ Hid (Below w0.heap.size w0 wx ∧ wx.cell? ⟨TB, 0, none⟩ = some (.slice A n c) ∧ TB < wx.heap.size ∧ SlV rDir wx (fun _ => True) R1 (.slice A n c)))
  case first =>
    go_region_held3 (fun W => (W.cell? ⟨GB, 0, none⟩ = some (.slice gA gn gc) ∧ W.cell? ⟨QB, 0, none⟩ = some (.slice kA kn kc) ∧ W.cell? ⟨QB, 1, none⟩ = some (.slice mA mn mc) ∧ W.cell? ⟨QB, 2, none⟩ = some (.slice nA nn nc) ∧ W.cell? ⟨QB, 3, none⟩ = some (.slice lA ln lc) ∧ W.cell? ⟨QB, 4, none⟩ = some (.slice vA vn vc) ∧ W.cell? ⟨QB, 5, none⟩ = some (.bool xdev) ∧ W.cell? ⟨QB, 6, none⟩ = some (.int .i64 ldec) ∧ W.cell? ⟨QB, 7, none⟩ = some (.int .i64 lnod) ∧ W.cell? ⟨QB, 8, none⟩ = some (.int .i64 ldirs) ∧ W.cell? ⟨QB, 9, none⟩ = some (.int .i64 lpath) ∧ W.cell? ⟨QB, 10, none⟩ = some (.slice oA on oc) ∧ W.cell? ⟨QB, 11, none⟩ = some (.bool xlike)) ∧ Below w0.heap.size w0 W)
      (first
        | (with_reducible exact ⟨hcell0, (Below.refl _ _).drew⟩)
        | (with_reducible exact ⟨Hcell.out _ (Below.refl _ _).drew, (Below.refl _ _).drew⟩)
        | (with_reducible exact ⟨Hcell.out _ hB3, hB3⟩)
        | (with_reducible exact ⟨Hcell.out _ hB2, hB2⟩)
        | (with_reducible exact ⟨Hcell.out _ (bal hB3 _), bal hB3 _⟩)
        | (with_reducible exact ⟨Hcell.out _ (bal hB2 _), bal hB2 _⟩)
        | (with_reducible exact ⟨Hcell.out _ (bal (Below.refl _ _).drew _), bal (Below.refl _ _).drew _⟩)
        | (with_reducible exact ⟨Hcell.out _ ((bal hB3 _).setCell hz3 _), (bal hB3 _).setCell hz3 _⟩)
        | (with_reducible exact ⟨Hcell.out _ (hB3.setCell hz2 _), hB3.setCell hz2 _⟩)
        | (with_reducible exact ⟨Hcell.out _ (hB3.setCell (Nat.le_refl _) _), hB3.setCell (Nat.le_refl _) _⟩)
        | fail)
      (first
        | (go_at_call 12; go_split_ands; with_reducible refine (HOld.out _ (bot HB0.out (by assumption))).mono ?_; rintro e w2 ⟨op, rfl, hov, hb2⟩; have hB2 : Below w0.heap.size w0 w2 := bot (by assumption) hb2; have hz2 := hB2.size; (try (have hT := box_first hb2; obtain ⟨hT2, fT2⟩ := hT)))
        | (go_at_call 11; go_split_ands; with_reducible refine (HRun.out _ (bot HB0.out (by assumption)) _ (by first | assumption | exact (hov.keep (bal (Below.refl _ _) _)).wide)).mono ?_; rintro e w3 ⟨⟨A, n, c, rfl, hrv⟩, hb3⟩; have hB3 : Below w0.heap.size w0 w3 := bot (by assumption) hb3; have hz3 := hB3.size; (first | (have hT := box_mid hb3; obtain ⟨hT3, fT3⟩ := hT) | (have hT := box_kept hb3 hT2 fT2; obtain ⟨hT3, fT3⟩ := hT) | skip)))
    all_goals
      go_wp2_with fail
      go_meet
      first
        | exact ⟨_, _, _, _, rfl, rfl, bal hB3 _, cell_of_row _ _ 0 _ _ _ (heap_new w3 _), by simp, (hrv.more (S' := fun _ => True) fun _ _ _ => trivial).alloc _⟩
        | exact ⟨_, _, _, _, rfl, rfl, box_set hB3 hz2 hT3 hrv (by simp)⟩
        | exact ⟨_, _, _, _, rfl, rfl, box_set hB3 (Nat.le_refl _) hT3 hrv (cell_lt hT2)⟩
  case rest =>
  obtain ⟨TB, A, n, c, rfl, rfl, HN⟩ := hcut
  generalize wc = w1 at *
  have HB1 := Lib.hid HN.out.1
  obtain ⟨c0, d0, d1, d2, d3, d4, d5, d6, d7, d8, d9, d10, d11⟩ := Hcell.out w1 HB1.out
  clear hcell0 HRun HOld
  go_wp2_with fail
  refine (HRef.out w1 (bot HB0.out HB1.out)).mono ?_
  rintro e w2 ⟨⟨B, m, d, rfl, hsl⟩, hb2⟩
  have HS2 := Lib.hid hsl
  have HB2 := Lib.hid hb2
  clear hsl hb2 c0 d0 d1 d2 d3 d4 d5 d6 d7 d8 d9 d10 d11 HRef Hcell
  go_upto_region 3 with (fail)
  obtain ⟨w3, hw3⟩ : ∃ w3, w3 = w2.alloc (.cells #[.slice B m d] 33) := ⟨_, rfl⟩
  have HB3 : Hid (Below w1.heap.size w1 w3) := by unfold Hid; rw [hw3]; exact bal HB2.out _
  have q1 : w3.cell? ⟨TB, 0, none⟩ = some (.slice A n c) := below_cell HB3.out HN.out.2.1 HN.out.2.2.1
  have q2 : w3.cell? ⟨w2.heap.size, 0, none⟩ = some (.slice B m d) := by rw [hw3]; exact cell_of_row _ _ 0 _ _ _ (heap_new w2 _)
  have HS3 : Hid (SlV rDir w3 (fun _ => True) R1 (.slice B m d)) := by unfold Hid; rw [hw3]; exact HS2.out.alloc _
  have HT3 := Lib.hid (HN.out.2.2.2.belowSize HB3.out)
  have HBa := Lib.hid (bot HB0.out (bot HB1.out HB3.out))
  rw [← hw3]
  clear hw3 HS2 HB2 HN HB1 HB3 HB0
  go_wp2_with fail
  refine (HAl.out w3 A n c B m d _ _ HT3.out HS3.out).mono ?_
  rintro e w4 ⟨rfl, hb4⟩
  have HB4 := Lib.hid (bot HBa.out hb4)
  clear hb4 HAl HT3 HS3 q1 q2 HBa
  have hRR : (R2 == R2) = true := by simp
  go_wp2_with fail
  refine (HLv.out w4 HB4.out).mono ?_
  rintro e w5 ⟨rfl, hb5⟩
  have HB5 := Lib.hid (bot HB4.out hb5)
  clear hb5 HLv
  go_wp2_with fail
  go_ret
  exact ⟨rfl, HB5.out⟩
end Go.Proofs.YtminjjdnmpaaoaaGreatDoor
