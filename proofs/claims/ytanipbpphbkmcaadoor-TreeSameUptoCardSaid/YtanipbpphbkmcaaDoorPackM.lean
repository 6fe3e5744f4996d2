/-
  pack.May and the document's May of a package: both are packB.
-/
import Derived.Test.YtanipbpphbkmcaaDoorPackT
set_option autoImplicit false
set_option relaxedAutoImplicit false
set_option linter.unusedVariables false
set_option linter.unusedSimpArgs false
namespace Go.Proofs.YtanipbpphbkmcaaDoor
open Go.Rows Go.RowKit Go.Shelf Go.Sort

theorem holds_of_slv {w : World} {S : Nat → Prop} {l : List Dep} {v : Value} (h : SlV rDep w S l v) : (rSlice rDep).holds w S l [v] := h
theorem three_lists {w : World} {a b c : List Dep} {u v x : Value} (t : TypeId) (h1 : SlV rDep w (fun _ => True) a u) (h2 : SlV rDep w (fun _ => True) b v) (h3 : SlV rDep w (fun _ => True) c x) :
    SlV (rSlice rDep) (w.alloc (.cells #[u, v, x] t)) (fun _ => True) [a, b, c] (.slice (some ⟨w.heap.size, 0, none⟩) 3 3) := by
  have hE : Elems (rSlice rDep) (w.alloc (.cells #[u, v, x] t)) (fun _ => True) [a, b, c] [u, v, x] := ⟨[u], [v, x], rfl, holds_of_slv (h1.alloc _), [v], [x], rfl, holds_of_slv (h2.alloc _), [x], [], rfl, holds_of_slv (h3.alloc _), rfl⟩
  exact SlV.of_block (heap_new w _) hE trivial rfl (Nat.le_refl 3) (by decide)

set_option maxHeartbeats 3200000 in
set_option maxRecDepth 100000 in
theorem packMay_any (p : Pack) (v : Value) (w : World) (S : Nat → Prop) (ht : Tab w) (hv : PackV w S p v) :
    Calls Tryd.prog 49 #[v] w fun e w' => e = .returned (.bool (packB p)) ∧ Below w.heap.size w w' := by
  have hv' := hv
  obtain ⟨A1, n1, c1, A2, n2, c2, A3, n3, c3, rfl, hnm, h1, h2, h3⟩ := hv
  have h1' := h1.more (S' := fun _ => True) fun b _ h => trivial
  have h2' := h2.more (S' := fun _ => True) fun b _ h => trivial
  have h3' := h3.more (S' := fun _ => True) fun b _ h => trivial
  have Hs1 := Lib.hid h1'; have Hs2 := Lib.hid h2'; have Hs3 := Lib.hid h3'; clear h1 h2 h3 h1' h2' h3'
  have Hv := Lib.hid hv'; clear hv'
  have Ht := Lib.hid ht; clear ht
  have HR : Hid (packB p = (nameB p.name && (verB p.ver.major p.ver.minor p.ver.patch && (listB p.deps && (listB p.peers && (listB p.opts && (nodupB (allNames [p.deps, p.peers, p.opts]) && decide ((packText p).size ≤ 4096)))))))) := rfl
  have Htx : Hid (∀ W, Tab W → nameB p.name = true → listB p.deps = true → listB p.peers = true → listB p.opts = true → Below w.heap.size w W → Calls Tryd.prog 68 #[.agg #[.string p.name, .int .i64 p.ver.major, .int .i64 p.ver.minor, .int .i64 p.ver.patch, .slice A1 n1 c1, .slice A2 n2 c2, .slice A3 n3 c3]] W fun e w' => e = .returned (.string (packText p)) ∧ Below W.heap.size W w') :=
    fun W hT a b c d hW => packText_any p _ W S hT (nameB_size a) b c d (Hv.out.keep hW)
  generalize packB p = R at *
  generalize packText p = T at *
  obtain ⟨name, ⟨x1, x2, x3⟩, deps, peers, opts⟩ := p
  dsimp only at *
  clear Hv
  have Hap : Hid (∀ W, listB deps = true → listB peers = true → listB opts = true → ∀ A n c S, SlV (rSlice rDep) W S [deps, peers, opts] (.slice A n c) → Calls Tryd.prog 67 #[.slice A n c] W fun e w' => e = .returned (.bool (nodupB (allNames [deps, peers, opts]))) ∧ Below W.heap.size W w') :=
    fun W a b c A n cc S h => apart_any A n cc _ W S (by have := (listB_small a).1; have := (listB_small b).1; have := (listB_small c).1; simp [allNames, namesOf]; omega) h
  generalize nodupB (allNames [deps, peers, opts]) = v6 at *
  have H1 : Hid (∀ W, Calls Tryd.prog 24 #[.string name] W fun e w' => e = .returned (.bool (nameB name)) ∧ Below W.heap.size W w') := fun W => scanName_any name hnm W
  have H2 : Hid (∀ W, Calls Tryd.prog 65 #[.agg #[.int .i64 x1, .int .i64 x2, .int .i64 x3]] W fun e w' => e = .returned (.bool (verB x1 x2 x3)) ∧ Below W.heap.size W w') := fun W => versMay_any _ _ _ W
  have H3 : Hid (∀ W, Below w.heap.size w W → Calls Tryd.prog 66 #[.slice A1 n1 c1] W fun e w' => e = .returned (.bool (listB deps)) ∧ Below W.heap.size W w') := fun W hW => list_any _ _ _ deps W _ (Hs1.out.belowSize hW)
  have H4 : Hid (∀ W, Below w.heap.size w W → Calls Tryd.prog 66 #[.slice A2 n2 c2] W fun e w' => e = .returned (.bool (listB peers)) ∧ Below W.heap.size W w') := fun W hW => list_any _ _ _ peers W _ (Hs2.out.belowSize hW)
  have H5 : Hid (∀ W, Below w.heap.size w W → Calls Tryd.prog 66 #[.slice A3 n3 c3] W fun e w' => e = .returned (.bool (listB opts)) ∧ Below W.heap.size W w') := fun W hW => list_any _ _ _ opts W _ (Hs3.out.belowSize hW)
  generalize nameB name = v1 at *
  generalize verB x1 x2 x3 = v2 at *
  generalize listB deps = v3 at *
  generalize listB peers = v4 at *
  generalize listB opts = v5 at *
  clear hnm
  go_enter Tryd.func49, Tryd.ntmps49
  go_wp2_with fail
  obtain ⟨w0, hw0⟩ : ∃ w0, w0 = w.alloc (.cells #[.string name, .int .i64 x1, .int .i64 x2, .int .i64 x3, .slice A1 n1 c1, .slice A2 n2 c2, .slice A3 n3 c3] 46) := ⟨_, rfl⟩
  have hz : w.heap.size < w0.heap.size := by rw [hw0]; simp [go_sem]
  have hb0 : Below w.heap.size w w0 := by rw [hw0]; exact bal (Below.refl _ _) _
  have a0 : w0.cell? ⟨w.heap.size, 0, none⟩ = some (.string name) := by rw [hw0]; simp [go_sem]
  have a1 : w0.cell? ⟨w.heap.size, 1, none⟩ = some (.int .i64 x1) := by rw [hw0]; simp [go_sem]
  have a2 : w0.cell? ⟨w.heap.size, 2, none⟩ = some (.int .i64 x2) := by rw [hw0]; simp [go_sem]
  have a3 : w0.cell? ⟨w.heap.size, 3, none⟩ = some (.int .i64 x3) := by rw [hw0]; simp [go_sem]
  have a4 : w0.cell? ⟨w.heap.size, 4, none⟩ = some (.slice A1 n1 c1) := by rw [hw0]; simp [go_sem]
  have a5 : w0.cell? ⟨w.heap.size, 5, none⟩ = some (.slice A2 n2 c2) := by rw [hw0]; simp [go_sem]
  have a6 : w0.cell? ⟨w.heap.size, 6, none⟩ = some (.slice A3 n3 c3) := by rw [hw0]; simp [go_sem]
  rw [← hw0]
  have HB0 := Lib.hid hb0; clear hb0 hw0
  refine (H1.out w0).mono ?_
  rintro e w1 ⟨rfl, B1⟩
  have HS : Hid (∀ W, Below w0.heap.size w0 W → Below w.heap.size w W) := fun W hW => bot HB0.out hW
  have Q1 := Lib.hid B1; clear B1
  cases v1
  · have He : Hid (R = false) := HR.out
    go_wp2_with fail
    go_ret
    exact ⟨ret_bool He.out.symm, HS.out _ Q1.out⟩
  have b1 := below_cell Q1.out a1 hz
  have b2 := below_cell Q1.out a2 hz
  have b3 := below_cell Q1.out a3 hz
  go_wp2_with fail
  refine (H2.out w1).mono ?_
  rintro e w2 ⟨rfl, B2⟩
  have Q2 := Lib.hid (bot Q1.out B2); clear B2 b1 b2 b3
  cases v2
  · have He : Hid (R = false) := HR.out
    go_wp2_with fail
    go_ret
    exact ⟨ret_bool He.out.symm, HS.out _ Q2.out⟩
  have b1 := below_cell Q2.out a4 hz
  go_wp2_with fail
  refine (H3.out w2 (HS.out _ Q2.out)).mono ?_
  rintro e w3 ⟨rfl, B3⟩
  have Q3 := Lib.hid (bot Q2.out B3); clear B3 b1
  cases v3
  · have He : Hid (R = false) := HR.out
    go_wp2_with fail
    go_ret
    exact ⟨ret_bool He.out.symm, HS.out _ Q3.out⟩
  have b1 := below_cell Q3.out a5 hz
  go_wp2_with fail
  refine (H4.out w3 (HS.out _ Q3.out)).mono ?_
  rintro e w4 ⟨rfl, B4⟩
  have Q4 := Lib.hid (bot Q3.out B4); clear B4 b1
  cases v4
  · have He : Hid (R = false) := HR.out
    go_wp2_with fail
    go_ret
    exact ⟨ret_bool He.out.symm, HS.out _ Q4.out⟩
  have b1 := below_cell Q4.out a6 hz
  go_wp2_with fail
  refine (H5.out w4 (HS.out _ Q4.out)).mono ?_
  rintro e w5 ⟨rfl, B5⟩
  have Q5 := Lib.hid (bot Q4.out B5); clear B5 b1
  cases v5
  · have He : Hid (R = false) := HR.out
    go_wp2_with fail
    go_ret
    exact ⟨ret_bool He.out.symm, HS.out _ Q5.out⟩
  have b4 := below_cell Q5.out a4 hz
  have b5 := below_cell Q5.out a5 hz
  have b6 := below_cell Q5.out a6 hz
  go_wp2_with fail
  refine (Hap.out _ trivial trivial trivial _ _ _ _ (three_lists _ (Hs1.out.belowSize (HS.out _ Q5.out)) (Hs2.out.belowSize (HS.out _ Q5.out)) (Hs3.out.belowSize (HS.out _ Q5.out)))).mono ?_
  rintro e w6 ⟨rfl, B6⟩
  have Q6 := Lib.hid (bot Q5.out (bnew B6)); clear B6 b4 b5 b6
  cases v6
  · have He : Hid (R = false) := HR.out
    go_wp2_with fail
    go_ret
    exact ⟨ret_bool He.out.symm, HS.out _ Q6.out⟩
  have b0 := below_cell Q6.out a0 hz
  have b1 := below_cell Q6.out a1 hz
  have b2 := below_cell Q6.out a2 hz
  have b3 := below_cell Q6.out a3 hz
  have b4 := below_cell Q6.out a4 hz
  have b5 := below_cell Q6.out a5 hz
  have b6 := below_cell Q6.out a6 hz
  go_wp2_with fail
  refine (Htx.out w6 (tab_below Ht.out (HS.out _ Q6.out)) trivial trivial trivial trivial (HS.out _ Q6.out)).mono ?_
  rintro e w7 ⟨rfl, B7⟩
  have Q7 := Lib.hid (bot Q6.out B7); clear B7 b0 b1 b2 b3 b4 b5 b6
  by_cases hs : T.size ≤ 4096
  · have He : Hid (R = true) := by unfold Hid; rw [HR.out]; simp [hs]
    have hsi : (T.size : Int) ≤ 4096 := by omega
    clear hs
    go_wp2_with fail
    go_ret
    exact ⟨ret_bool (by rw [He.out]), HS.out _ Q7.out⟩
  · have He : Hid (R = false) := by unfold Hid; rw [HR.out]; simp [hs]
    have hsi : ¬ (T.size : Int) ≤ 4096 := by omega
    clear hs
    go_wp2_with fail
    go_ret
    exact ⟨ret_bool (by rw [He.out]; first | rfl | simp [hsi]), HS.out _ Q7.out⟩
end Go.Proofs.YtanipbpphbkmcaaDoor
