/-
  The program's pack.text (a Builder), walked.
-/
import Derived.Test.YtminjjdnmpaaoaaGreatDoorPp13
set_option autoImplicit false
set_option relaxedAutoImplicit false
set_option linter.unusedVariables false
set_option linter.unusedSimpArgs false
namespace Go.Proofs.YtminjjdnmpaaoaaGreatDoor
open Go.Rows Go.RowKit Go.Shelf Go.Sort

set_option maxHeartbeats 3200000 in
set_option maxRecDepth 100000 in
theorem packText_any (p : Pack) (v : Value) (w : World) (S : Nat → Prop) (ht : Tab w) (hnm : p.name.size ≤ 16) (hd : listB p.deps = true) (hp : listB p.peers = true) (ho : listB p.opts = true) (hv : PackV w S p v) :
    Calls Tryz.prog 127 #[v] w fun e w' => e = .returned (.string (packText p)) ∧ Below w.heap.size w w' := by
  obtain ⟨A1, n1, c1, A2, n2, c2, A3, n3, c3, rfl, _, h1, h2, h3⟩ := hv
  obtain ⟨d1, d2⟩ := listB_small hd
  obtain ⟨p1, p2⟩ := listB_small hp
  obtain ⟨o1, o2⟩ := listB_small ho
  have zd := linesD_le (word := needsW) (by decide) d2
  have zp := linesD_le (word := besideW) (by decide) p2
  have zo := linesD_le (word := likesW) (by decide) o2
  have zh := packHead_le hnm
  have zv := verText_le p.ver.major p.ver.minor p.ver.patch
  have h1' := h1.more (S' := fun b => b < w.heap.size) fun b _ h => h
  have h2' := h2.more (S' := fun b => b < w.heap.size) fun b _ h => h
  have h3' := h3.more (S' := fun b => b < w.heap.size) fun b _ h => h
  clear h1 h2 h3
  have Hph : Hid (packHead p = packW ++ p.name ++ spaceB ++ verText p.ver.major p.ver.minor p.ver.patch ++ nlB) := rfl
  have Hpt : Hid (packText p = packHead p ++ linesD needsW p.deps ++ linesD besideW p.peers ++ linesD likesW p.opts) := rfl
  generalize packText p = R at *
  generalize packHead p = ph at *
  have z1 : spaceB.size = 1 := rfl
  have z2 : nlB.size = 1 := rfl
  have z3 : packW.size = 8 := rfl
  obtain ⟨name, ⟨x1, x2, x3⟩, deps, peers, opts⟩ := p
  dsimp only at *
  have E1 : ∀ W : World, (Op.stringOp .add ⟨#[112, 97, 99, 107, 97, 103, 101, 32]⟩ name).run Tryz.prog W = .ok (.string (packW ++ name)) W := fun W => run_string_add_sum W packW name (by omega)
  have E2 : ∀ W : World, (Op.stringOp .add (packW ++ name) ⟨#[32]⟩).run Tryz.prog W = .ok (.string (packW ++ name ++ spaceB)) W := fun W => run_string_add_sum W _ spaceB (by simp only [ByteArray.size_append]; omega)
  have Hc0 : Hid (∀ o o' : Obj, ∀ d os, Calls Tryz.prog 155 #[.agg #[.int .i64 x1, .int .i64 x2, .int .i64 x3]] (grow (redrawn ((w.alloc o).alloc o') d) os) fun e w'' => e = .returned (.string (verText x1 x2 x3)) ∧ ∃ p : Regrown, w'' = grow (redrawn ((w.alloc o).alloc o') p.d) p.os) :=
    fun o o' => qcall (w := (w.alloc o).alloc o') (fun W hW => versPrint_any _ _ _ W (tab_below (tab_below ht (bal (bal (Below.refl _ _) o) o')) hW))
  have Htx1 : Hid (linesD needsW deps = linesD needsW deps) := rfl
  generalize hvt : verText x1 x2 x3 = tv at *
  clear hvt
  have E3 : ∀ W : World, (Op.stringOp .add (packW ++ name ++ spaceB) tv).run Tryz.prog W = .ok (.string (packW ++ name ++ spaceB ++ tv)) W := fun W => run_string_add_sum W _ _ (by simp only [ByteArray.size_append]; omega)
  have E4 : ∀ W : World, (Op.stringOp .add (packW ++ name ++ spaceB ++ tv) ⟨#[10]⟩).run Tryz.prog W = .ok (.string ph) W := fun W => by rw [Hph.out]; exact run_string_add_sum W _ nlB (by simp only [ByteArray.size_append]; omega)
  have HL : Hid (ph.size ≤ 100 ∧ (linesD needsW deps).size ≤ 33600 ∧ (linesD besideW peers).size ≤ 33600 ∧ (linesD likesW opts).size ≤ 33600) := ⟨zh, by omega, by omega, by omega⟩
  have Hd1 := Lib.hid d1; have Hd2 := Lib.hid d2; have Hp1 := Lib.hid p1; have Hp2 := Lib.hid p2; have Ho1 := Lib.hid o1; have Ho2 := Lib.hid o2
  clear z1 z2 z3 zd zp zo zh zv hnm d1 d2 p1 p2 o1 o2 hd hp ho Htx1 Hph
  have Ht := Lib.hid ht; clear ht
  have Hs1 := Lib.hid h1'; have Hs2 := Lib.hid h2'; have Hs3 := Lib.hid h3'; clear h1' h2' h3'
  go_enter Tryz.func127, Tryz.ntmps127
  go_wp2_with fail
  obtain ⟨w0, hw0⟩ : ∃ w0, w0 = w.alloc (.cells #[.string name, .int .i64 x1, .int .i64 x2, .int .i64 x3, .slice A1 n1 c1, .slice A2 n2 c2, .slice A3 n3 c3] 52) := ⟨_, rfl⟩
  have hz : w.heap.size < w0.heap.size := by rw [hw0]; simp [go_sem]
  have hq : w.heap.size + 1 = w0.heap.size := by rw [hw0]; simp [go_sem]
  have hb0 : Below w.heap.size w w0 := by rw [hw0]; exact bal (Below.refl _ _) _
  have a0 : w0.cell? ⟨w.heap.size, 0, none⟩ = some (.string name) := by rw [hw0]; simp [go_sem]
  have a1 : w0.cell? ⟨w.heap.size, 1, none⟩ = some (.int .i64 x1) := by rw [hw0]; simp [go_sem]
  have a2 : w0.cell? ⟨w.heap.size, 2, none⟩ = some (.int .i64 x2) := by rw [hw0]; simp [go_sem]
  have a3 : w0.cell? ⟨w.heap.size, 3, none⟩ = some (.int .i64 x3) := by rw [hw0]; simp [go_sem]
  have a4 : w0.cell? ⟨w.heap.size, 4, none⟩ = some (.slice A1 n1 c1) := by rw [hw0]; simp [go_sem]
  have a5 : w0.cell? ⟨w.heap.size, 5, none⟩ = some (.slice A2 n2 c2) := by rw [hw0]; simp [go_sem]
  have a6 : w0.cell? ⟨w.heap.size, 6, none⟩ = some (.slice A3 n3 c3) := by rw [hw0]; simp [go_sem]
  have Hc1 : Hid (∀ o' : Obj, ∀ d os, Calls Tryz.prog 155 #[.agg #[.int .i64 x1, .int .i64 x2, .int .i64 x3]] (grow (redrawn (w0.alloc o') d) os) fun e w'' => e = .returned (.string tv) ∧ ∃ p : Regrown, w'' = grow (redrawn (w0.alloc o') p.d) p.os) := by
    unfold Hid; rw [hw0]; exact Hc0.out _
  rw [← hw0]
  clear Hc0
  have Hb0 := Lib.hid hb0; clear hb0 hw0
  have HBf : Hid (IsB w0.heap.size w0.heap.size (Lib.strCells ⟨#[]⟩) (w0.alloc (.cells #[.pointer none, .slice none 0 0] 107))) := Lib.fresh_isBuilder _ _ _
  obtain ⟨wb, hwb⟩ : ∃ wb, wb = w0.alloc (.cells #[.pointer none, .slice none 0 0] 107) := ⟨_, rfl⟩
  have Hbb : Hid (Below w0.heap.size w0 wb) := by unfold Hid; rw [hwb]; exact bal (Below.refl _ _) _
  have Hc2 : Hid (∀ d os, Calls Tryz.prog 155 #[.agg #[.int .i64 x1, .int .i64 x2, .int .i64 x3]] (grow (redrawn wb d) os) fun e w'' => e = .returned (.string tv) ∧ ∃ p : Regrown, w'' = grow (redrawn wb p.d) p.os) := by
    unfold Hid; rw [hwb]; exact Hc1.out _
  rw [← hwb] at HBf
  rw [← hwb]
  try rw [hq]
  clear Hc1 hwb
  have b0 := below_cell Hbb.out a0 hz
  have b1 := below_cell Hbb.out a1 hz
  have b2 := below_cell Hbb.out a2 hz
  have b3 := below_cell Hbb.out a3 hz
  have r_b0 := cell_regrown b0
  have r_b1 := cell_regrown b1
  have r_b2 := cell_regrown b2
  have r_b3 := cell_regrown b3
  refine wp_region_qb_tail 9 (by kernel_rfl) (by kernel_rfl) ?_
  simp only [List.take_succ_cons, List.take_zero, List.drop_succ_cons, List.drop_zero]
  repeat (go_big_quiet_step (first | (with_reducible exact Hc2.out _ _)))
  refine wpQuiet_nil ?_
  intro w1 B1
  have Hbb1 : Hid (Below w0.heap.size w0 w1) := bot Hbb.out B1
  have HB1 : Hid (IsB w0.heap.size w0.heap.size (Lib.strCells ⟨#[]⟩) w1) := HBf.out.keep B1
  clear r_b0 r_b1 r_b2 r_b3 b0 b1 b2 b3 B1 HBf Hbb Hc2 E1 E2 E3 E4
  have Hl1 : Hid ((Lib.strCells ⟨#[]⟩).length + ph.size ≤ 140737488355328) := by unfold Hid; have := HL.out.1; simp [Lib.strCells]; omega
  go_wp2_with fail
  refine (writeString_any _ _ _ ph _ HB1.out Hl1.out Hbb1.out.size).mono ?_
  rintro e w2 ⟨rfl, hB2, hb2⟩
  have HB2 : Hid (IsB w0.heap.size w0.heap.size (Lib.strCells ph) w2) := .inr hB2
  have Hbb2 := Lib.hid (Hbb1.out.trans hb2)
  have HT : Hid (∀ W, Below w0.heap.size w0 W → Tab W) := fun W hW => tab_below Ht.out (bot Hb0.out hW)
  have HS : Hid (∀ W, Below w0.heap.size w0 W → Below w.heap.size w W) := fun W hW => bot Hb0.out hW
  clear hB2 hb2 HB1 Hbb1 Hl1
  have d4 := below_cell Hbb2.out a4 hz
  go_wp2_with fail
  refine (lines_any needsW (by decide) A1 n1 c1 deps w2 (fun b => b < w.heap.size) w0.heap.size w0.heap.size (Lib.strCells ph) Hd1.out Hd2.out (fun W hW => HT.out W (Hbb2.out.trans hW)) (Hs1.out.below (HS.out _ Hbb2.out) (fun b h => h)) (fun b h => Nat.lt_trans h hz) HB2.out (by rw [Lib.strCells_length]; have := HL.out.1; omega) Hbb2.out.size).mono ?_
  rintro e w3 ⟨rfl, hB3, hb3⟩
  have HB3 := Lib.hid hB3; have Hbb3 := Lib.hid (Hbb2.out.trans hb3)
  clear hB3 hb3 HB2 Hbb2 d4
  have d5 := below_cell Hbb3.out a5 hz
  go_wp2_with fail
  refine (lines_any besideW (by decide) A2 n2 c2 peers w3 (fun b => b < w.heap.size) w0.heap.size w0.heap.size _ Hp1.out Hp2.out (fun W hW => HT.out W (Hbb3.out.trans hW)) (Hs2.out.below (HS.out _ Hbb3.out) (fun b h => h)) (fun b h => Nat.lt_trans h hz) HB3.out (by simp only [List.length_append, Lib.strCells_length]; have := HL.out; omega) Hbb3.out.size).mono ?_
  rintro e w4 ⟨rfl, hB4, hb4⟩
  have HB4 := Lib.hid hB4; have Hbb4 := Lib.hid (Hbb3.out.trans hb4)
  clear hB4 hb4 HB3 Hbb3 d5
  have d6 := below_cell Hbb4.out a6 hz
  go_wp2_with fail
  refine (lines_any likesW (by decide) A3 n3 c3 opts w4 (fun b => b < w.heap.size) w0.heap.size w0.heap.size _ Ho1.out Ho2.out (fun W hW => HT.out W (Hbb4.out.trans hW)) (Hs3.out.below (HS.out _ Hbb4.out) (fun b h => h)) (fun b h => Nat.lt_trans h hz) HB4.out (by simp only [List.length_append, Lib.strCells_length]; have := HL.out; omega) Hbb4.out.size).mono ?_
  rintro e w5 ⟨rfl, hB5, hb5⟩
  have HB5 : Hid (IsB w0.heap.size w0.heap.size (Lib.byteCells R.data.toList) w5) := by
    unfold Hid; rw [← Lib.strCells_eq, Hpt.out, strCells_append, strCells_append, strCells_append]; exact hB5
  have Hbb5 := Lib.hid (Hbb4.out.trans hb5)
  clear hB5 hb5 HB4 Hbb4 d6
  go_wp2_with fail
  refine (Tryz.Builder_String_any _ _ _ _ HB5.out Hbb5.out.size).mono ?_
  rintro e w6 ⟨rfl, hb6⟩
  go_wp2_with fail
  go_ret
  exact ⟨rfl, HS.out _ (Hbb5.out.trans hb6)⟩
end Go.Proofs.YtminjjdnmpaaoaaGreatDoor
/-
  pack.May and the document's May of a package: both are packB.
-/
set_option autoImplicit false
set_option relaxedAutoImplicit false
set_option linter.unusedVariables false
set_option linter.unusedSimpArgs false
namespace Go.Proofs.YtminjjdnmpaaoaaGreatDoor
open Go.Rows Go.RowKit Go.Shelf Go.Sort

theorem holds_of_slv {w : World} {S : Nat → Prop} {l : List Dep} {v : Value} (h : SlV rDep w S l v) : (rSlice rDep).holds w S l [v] := h
theorem three_lists {w : World} {a b c : List Dep} {u v x : Value} (t : TypeId) (h1 : SlV rDep w (fun _ => True) a u) (h2 : SlV rDep w (fun _ => True) b v) (h3 : SlV rDep w (fun _ => True) c x) :
    SlV (rSlice rDep) (w.alloc (.cells #[u, v, x] t)) (fun _ => True) [a, b, c] (.slice (some ⟨w.heap.size, 0, none⟩) 3 3) := by
  have hE : Elems (rSlice rDep) (w.alloc (.cells #[u, v, x] t)) (fun _ => True) [a, b, c] [u, v, x] := ⟨[u], [v, x], rfl, holds_of_slv (h1.alloc _), [v], [x], rfl, holds_of_slv (h2.alloc _), [x], [], rfl, holds_of_slv (h3.alloc _), rfl⟩
  exact SlV.of_block (heap_new w _) hE trivial rfl (Nat.le_refl 3) (by decide)

set_option maxHeartbeats 3200000 in
set_option maxRecDepth 100000 in
theorem packMay_any (p : Pack) (v : Value) (w : World) (S : Nat → Prop) (ht : Tab w) (hv : PackV w S p v) :
    Calls Tryz.prog 71 #[v] w fun e w' => e = .returned (.bool (packB p)) ∧ Below w.heap.size w w' := by
  have hv' := hv
  obtain ⟨A1, n1, c1, A2, n2, c2, A3, n3, c3, rfl, hnm, h1, h2, h3⟩ := hv
  have h1' := h1.more (S' := fun _ => True) fun b _ h => trivial
  have h2' := h2.more (S' := fun _ => True) fun b _ h => trivial
  have h3' := h3.more (S' := fun _ => True) fun b _ h => trivial
  have Hs1 := Lib.hid h1'; have Hs2 := Lib.hid h2'; have Hs3 := Lib.hid h3'; clear h1 h2 h3 h1' h2' h3'
  have Hv := Lib.hid hv'; clear hv'
  have Ht := Lib.hid ht; clear ht
  have HR : Hid (packB p = (nameB p.name && (verB p.ver.major p.ver.minor p.ver.patch && (listB p.deps && (listB p.peers && (listB p.opts && (nodupB (allNames [p.deps, p.peers, p.opts]) && decide ((packText p).size ≤ 4096)))))))) := rfl
  have Htx : Hid (∀ W, Tab W → nameB p.name = true → listB p.deps = true → listB p.peers = true → listB p.opts = true → Below w.heap.size w W → Calls Tryz.prog 127 #[.agg #[.string p.name, .int .i64 p.ver.major, .int .i64 p.ver.minor, .int .i64 p.ver.patch, .slice A1 n1 c1, .slice A2 n2 c2, .slice A3 n3 c3]] W fun e w' => e = .returned (.string (packText p)) ∧ Below W.heap.size W w') :=
    fun W hT a b c d hW => packText_any p _ W S hT (nameB_size a) b c d (Hv.out.keep hW)
  generalize packB p = R at *
  generalize packText p = T at *
  obtain ⟨name, ⟨x1, x2, x3⟩, deps, peers, opts⟩ := p
  dsimp only at *
  clear Hv
  have Hap : Hid (∀ W, listB deps = true → listB peers = true → listB opts = true → ∀ A n c S, SlV (rSlice rDep) W S [deps, peers, opts] (.slice A n c) → Calls Tryz.prog 126 #[.slice A n c] W fun e w' => e = .returned (.bool (nodupB (allNames [deps, peers, opts]))) ∧ Below W.heap.size W w') :=
    fun W a b c A n cc S h => apart_any A n cc _ W S (by have := (listB_small a).1; have := (listB_small b).1; have := (listB_small c).1; simp [allNames, namesOf]; omega) h
  generalize nodupB (allNames [deps, peers, opts]) = v6 at *
  have H1 : Hid (∀ W, Calls Tryz.prog 36 #[.string name] W fun e w' => e = .returned (.bool (nameB name)) ∧ Below W.heap.size W w') := fun W => scanName_any name hnm W
  have H2 : Hid (∀ W, Calls Tryz.prog 124 #[.agg #[.int .i64 x1, .int .i64 x2, .int .i64 x3]] W fun e w' => e = .returned (.bool (verB x1 x2 x3)) ∧ Below W.heap.size W w') := fun W => versMay_any _ _ _ W
  have H3 : Hid (∀ W, Below w.heap.size w W → Calls Tryz.prog 125 #[.slice A1 n1 c1] W fun e w' => e = .returned (.bool (listB deps)) ∧ Below W.heap.size W w') := fun W hW => list_any _ _ _ deps W _ (Hs1.out.belowSize hW)
  have H4 : Hid (∀ W, Below w.heap.size w W → Calls Tryz.prog 125 #[.slice A2 n2 c2] W fun e w' => e = .returned (.bool (listB peers)) ∧ Below W.heap.size W w') := fun W hW => list_any _ _ _ peers W _ (Hs2.out.belowSize hW)
  have H5 : Hid (∀ W, Below w.heap.size w W → Calls Tryz.prog 125 #[.slice A3 n3 c3] W fun e w' => e = .returned (.bool (listB opts)) ∧ Below W.heap.size W w') := fun W hW => list_any _ _ _ opts W _ (Hs3.out.belowSize hW)
  generalize nameB name = v1 at *
  generalize verB x1 x2 x3 = v2 at *
  generalize listB deps = v3 at *
  generalize listB peers = v4 at *
  generalize listB opts = v5 at *
  clear hnm
  go_enter Tryz.func71, Tryz.ntmps71
  go_wp2_with fail
  obtain ⟨w0, hw0⟩ : ∃ w0, w0 = w.alloc (.cells #[.string name, .int .i64 x1, .int .i64 x2, .int .i64 x3, .slice A1 n1 c1, .slice A2 n2 c2, .slice A3 n3 c3] 52) := ⟨_, rfl⟩
  have hz : w.heap.size < w0.heap.size := by rw [hw0]; simp [go_sem]
  have hb0 : Below w.heap.size w w0 := by rw [hw0]; exact bal (Below.refl _ _) _
  have a0 : w0.cell? ⟨w.heap.size, 0, none⟩ = some (.string name) := by rw [hw0]; simp [go_sem]
  have a1 : w0.cell? ⟨w.heap.size, 1, none⟩ = some (.int .i64 x1) := by rw [hw0]; simp [go_sem]
  have a2 : w0.cell? ⟨w.heap.size, 2, none⟩ = some (.int .i64 x2) := by rw [hw0]; simp [go_sem]
  have a3 : w0.cell? ⟨w.heap.size, 3, none⟩ = some (.int .i64 x3) := by rw [hw0]; simp [go_sem]
  have a4 : w0.cell? ⟨w.heap.size, 4, none⟩ = some (.slice A1 n1 c1) := by rw [hw0]; simp [go_sem]
  have a5 : w0.cell? ⟨w.heap.size, 5, none⟩ = some (.slice A2 n2 c2) := by rw [hw0]; simp [go_sem]
  have a6 : w0.cell? ⟨w.heap.size, 6, none⟩ = some (.slice A3 n3 c3) := by rw [hw0]; simp [go_sem]
  rw [← hw0]
  have HB0 := Lib.hid hb0; clear hb0 hw0
  refine (H1.out w0).mono ?_
  rintro e w1 ⟨rfl, B1⟩
  have HS : Hid (∀ W, Below w0.heap.size w0 W → Below w.heap.size w W) := fun W hW => bot HB0.out hW
  have Q1 := Lib.hid B1; clear B1
  cases v1
  · have He : Hid (R = false) := HR.out
    go_wp2_with fail
    go_ret
    exact ⟨ret_bool He.out.symm, HS.out _ Q1.out⟩
  have b1 := below_cell Q1.out a1 hz
  have b2 := below_cell Q1.out a2 hz
  have b3 := below_cell Q1.out a3 hz
  go_wp2_with fail
  refine (H2.out w1).mono ?_
  rintro e w2 ⟨rfl, B2⟩
  have Q2 := Lib.hid (bot Q1.out B2); clear B2 b1 b2 b3
  cases v2
  · have He : Hid (R = false) := HR.out
    go_wp2_with fail
    go_ret
    exact ⟨ret_bool He.out.symm, HS.out _ Q2.out⟩
  have b1 := below_cell Q2.out a4 hz
  go_wp2_with fail
  refine (H3.out w2 (HS.out _ Q2.out)).mono ?_
  rintro e w3 ⟨rfl, B3⟩
  have Q3 := Lib.hid (bot Q2.out B3); clear B3 b1
  cases v3
  · have He : Hid (R = false) := HR.out
    go_wp2_with fail
    go_ret
    exact ⟨ret_bool He.out.symm, HS.out _ Q3.out⟩
  have b1 := below_cell Q3.out a5 hz
  go_wp2_with fail
  refine (H4.out w3 (HS.out _ Q3.out)).mono ?_
  rintro e w4 ⟨rfl, B4⟩
  have Q4 := Lib.hid (bot Q3.out B4); clear B4 b1
  cases v4
  · have He : Hid (R = false) := HR.out
    go_wp2_with fail
    go_ret
    exact ⟨ret_bool He.out.symm, HS.out _ Q4.out⟩
  have b1 := below_cell Q4.out a6 hz
  go_wp2_with fail
  refine (H5.out w4 (HS.out _ Q4.out)).mono ?_
  rintro e w5 ⟨rfl, B5⟩
  have Q5 := Lib.hid (bot Q4.out B5); clear B5 b1
  cases v5
  · have He : Hid (R = false) := HR.out
    go_wp2_with fail
    go_ret
    exact ⟨ret_bool He.out.symm, HS.out _ Q5.out⟩
  have b4 := below_cell Q5.out a4 hz
  have b5 := below_cell Q5.out a5 hz
  have b6 := below_cell Q5.out a6 hz
  go_wp2_with fail
  refine (Hap.out _ trivial trivial trivial _ _ _ _ (three_lists _ (Hs1.out.belowSize (HS.out _ Q5.out)) (Hs2.out.belowSize (HS.out _ Q5.out)) (Hs3.out.belowSize (HS.out _ Q5.out)))).mono ?_
  rintro e w6 ⟨rfl, B6⟩
  have Q6 := Lib.hid (bot Q5.out (bnew B6)); clear B6 b4 b5 b6
  cases v6
  · have He : Hid (R = false) := HR.out
    go_wp2_with fail
    go_ret
    exact ⟨ret_bool He.out.symm, HS.out _ Q6.out⟩
  have b0 := below_cell Q6.out a0 hz
  have b1 := below_cell Q6.out a1 hz
  have b2 := below_cell Q6.out a2 hz
  have b3 := below_cell Q6.out a3 hz
  have b4 := below_cell Q6.out a4 hz
  have b5 := below_cell Q6.out a5 hz
  have b6 := below_cell Q6.out a6 hz
  go_wp2_with fail
  refine (Htx.out w6 (tab_below Ht.out (HS.out _ Q6.out)) trivial trivial trivial trivial (HS.out _ Q6.out)).mono ?_
  rintro e w7 ⟨rfl, B7⟩
  have Q7 := Lib.hid (bot Q6.out B7); clear B7 b0 b1 b2 b3 b4 b5 b6
  by_cases hs : T.size ≤ 4096
  · have He : Hid (R = true) := by unfold Hid; rw [HR.out]; simp [hs]
    have hsi : (T.size : Int) ≤ 4096 := by omega
    clear hs
    go_wp2_with fail
    go_ret
    exact ⟨ret_bool (by rw [He.out]), HS.out _ Q7.out⟩
  · have He : Hid (R = false) := by unfold Hid; rw [HR.out]; simp [hs]
    have hsi : ¬ (T.size : Int) ≤ 4096 := by omega
    clear hs
    go_wp2_with fail
    go_ret
    exact ⟨ret_bool (by rw [He.out]; first | rfl | simp [hsi]), HS.out _ Q7.out⟩
end Go.Proofs.YtminjjdnmpaaoaaGreatDoor
/-
  The document's May of a package: packB.
-/
set_option autoImplicit false
set_option relaxedAutoImplicit false
set_option linter.unusedVariables false
set_option linter.unusedSimpArgs false
namespace Go.Proofs.YtminjjdnmpaaoaaGreatDoor
open Go.Rows Go.RowKit Go.Shelf Go.Sort

set_option maxHeartbeats 3200000 in
set_option maxRecDepth 100000 in
theorem refPackMay_any (p : Pack) (v : Value) (w : World) (S : Nat → Prop) (hv : PackV w S p v) :
    Calls Tryz.prog 63 #[v] w fun e w' => e = .returned (.bool (packB p)) ∧ Below w.heap.size w w' := by
  have hv' := hv
  obtain ⟨A1, n1, c1, A2, n2, c2, A3, n3, c3, rfl, hnm, h1, h2, h3⟩ := hv
  have h1' := h1.more (S' := fun _ => True) fun b _ h => trivial
  have h2' := h2.more (S' := fun _ => True) fun b _ h => trivial
  have h3' := h3.more (S' := fun _ => True) fun b _ h => trivial
  have Hs1 := Lib.hid h1'; have Hs2 := Lib.hid h2'; have Hs3 := Lib.hid h3'; clear h1 h2 h3 h1' h2' h3'
  have Hv := Lib.hid hv'; clear hv'
  have HR : Hid (packB p = (nameB p.name && (verB p.ver.major p.ver.minor p.ver.patch && (listB p.deps && (listB p.peers && (listB p.opts && (nodupB (allNames [p.deps, p.peers, p.opts]) && decide ((packText p).size ≤ 4096)))))))) := rfl
  have Htx : Hid (∀ W, nameB p.name = true → listB p.deps = true → listB p.peers = true → listB p.opts = true → Below w.heap.size w W → Calls Tryz.prog 107 #[.agg #[.string p.name, .int .i64 p.ver.major, .int .i64 p.ver.minor, .int .i64 p.ver.patch, .slice A1 n1 c1, .slice A2 n2 c2, .slice A3 n3 c3]] W fun e w' => e = .returned (.string (packText p)) ∧ Below W.heap.size W w') :=
    fun W a b c d hW => refPackText_any p _ W S (nameB_size a) b c d (Hv.out.keep hW)
  generalize packB p = R at *
  generalize packText p = T at *
  obtain ⟨name, ⟨x1, x2, x3⟩, deps, peers, opts⟩ := p
  dsimp only at *
  clear Hv
  have Hap : Hid (listB deps = true → listB peers = true → listB opts = true → nodupB (allNames [deps, peers, opts]) = (disjB deps peers && disjB deps opts && disjB peers opts)) := fun a b c => apart3 a b c
  have G1 : Hid (∀ W, Below w.heap.size w W → Calls Tryz.prog 106 #[.slice A1 n1 c1, .slice A2 n2 c2] W fun e w' => e = .returned (.bool (disjB deps peers)) ∧ Below W.heap.size W w') := fun W hW => refApart_any _ _ _ _ _ _ deps peers W _ _ (Hs1.out.belowSize hW) (Hs2.out.belowSize hW)
  have G2 : Hid (∀ W, Below w.heap.size w W → Calls Tryz.prog 106 #[.slice A1 n1 c1, .slice A3 n3 c3] W fun e w' => e = .returned (.bool (disjB deps opts)) ∧ Below W.heap.size W w') := fun W hW => refApart_any _ _ _ _ _ _ deps opts W _ _ (Hs1.out.belowSize hW) (Hs3.out.belowSize hW)
  have G3 : Hid (∀ W, Below w.heap.size w W → Calls Tryz.prog 106 #[.slice A2 n2 c2, .slice A3 n3 c3] W fun e w' => e = .returned (.bool (disjB peers opts)) ∧ Below W.heap.size W w') := fun W hW => refApart_any _ _ _ _ _ _ peers opts W _ _ (Hs2.out.belowSize hW) (Hs3.out.belowSize hW)
  generalize disjB deps peers = g1 at *
  generalize disjB deps opts = g2 at *
  generalize disjB peers opts = g3 at *
  generalize nodupB (allNames [deps, peers, opts]) = v6 at *
  have H1 : Hid (∀ W, Calls Tryz.prog 97 #[.string name] W fun e w' => e = .returned (.bool (nameB name)) ∧ Below W.heap.size W w') := fun W => (refName_any name hnm W).mono fun e w' h => ⟨h.1, h.2 ▸ Below.refl _ _⟩
  have H2 : Hid (∀ W, Calls Tryz.prog 104 #[.agg #[.int .i64 x1, .int .i64 x2, .int .i64 x3]] W fun e w' => e = .returned (.bool (verB x1 x2 x3)) ∧ Below W.heap.size W w') := fun W => refVerMay_any _ _ _ W
  have H3 : Hid (∀ W, Below w.heap.size w W → Calls Tryz.prog 105 #[.slice A1 n1 c1] W fun e w' => e = .returned (.bool (listB deps)) ∧ Below W.heap.size W w') := fun W hW => refList_any _ _ _ deps W _ (Hs1.out.belowSize hW)
  have H4 : Hid (∀ W, Below w.heap.size w W → Calls Tryz.prog 105 #[.slice A2 n2 c2] W fun e w' => e = .returned (.bool (listB peers)) ∧ Below W.heap.size W w') := fun W hW => refList_any _ _ _ peers W _ (Hs2.out.belowSize hW)
  have H5 : Hid (∀ W, Below w.heap.size w W → Calls Tryz.prog 105 #[.slice A3 n3 c3] W fun e w' => e = .returned (.bool (listB opts)) ∧ Below W.heap.size W w') := fun W hW => refList_any _ _ _ opts W _ (Hs3.out.belowSize hW)
  generalize nameB name = v1 at *
  generalize verB x1 x2 x3 = v2 at *
  generalize listB deps = v3 at *
  generalize listB peers = v4 at *
  generalize listB opts = v5 at *
  clear hnm
  go_enter Tryz.func63, Tryz.ntmps63
  go_wp2_with fail
  obtain ⟨w0, hw0⟩ : ∃ w0, w0 = w.alloc (.cells #[.string name, .int .i64 x1, .int .i64 x2, .int .i64 x3, .slice A1 n1 c1, .slice A2 n2 c2, .slice A3 n3 c3] 52) := ⟨_, rfl⟩
  have hz : w.heap.size < w0.heap.size := by rw [hw0]; simp [go_sem]
  have hb0 : Below w.heap.size w w0 := by rw [hw0]; exact bal (Below.refl _ _) _
  have a0 : w0.cell? ⟨w.heap.size, 0, none⟩ = some (.string name) := by rw [hw0]; simp [go_sem]
  have a1 : w0.cell? ⟨w.heap.size, 1, none⟩ = some (.int .i64 x1) := by rw [hw0]; simp [go_sem]
  have a2 : w0.cell? ⟨w.heap.size, 2, none⟩ = some (.int .i64 x2) := by rw [hw0]; simp [go_sem]
  have a3 : w0.cell? ⟨w.heap.size, 3, none⟩ = some (.int .i64 x3) := by rw [hw0]; simp [go_sem]
  have a4 : w0.cell? ⟨w.heap.size, 4, none⟩ = some (.slice A1 n1 c1) := by rw [hw0]; simp [go_sem]
  have a5 : w0.cell? ⟨w.heap.size, 5, none⟩ = some (.slice A2 n2 c2) := by rw [hw0]; simp [go_sem]
  have a6 : w0.cell? ⟨w.heap.size, 6, none⟩ = some (.slice A3 n3 c3) := by rw [hw0]; simp [go_sem]
  rw [← hw0]
  have HB0 := Lib.hid hb0; clear hb0 hw0
  refine (H1.out w0).mono ?_
  rintro e w1 ⟨rfl, B1⟩
  have HS : Hid (∀ W, Below w0.heap.size w0 W → Below w.heap.size w W) := fun W hW => bot HB0.out hW
  have Q1 := Lib.hid B1; clear B1
  cases v1
  · have He : Hid (R = false) := HR.out
    go_wp2_with fail
    go_ret
    exact ⟨ret_bool He.out.symm, HS.out _ Q1.out⟩
  have b1 := below_cell Q1.out a1 hz
  have b2 := below_cell Q1.out a2 hz
  have b3 := below_cell Q1.out a3 hz
  go_wp2_with fail
  refine (H2.out w1).mono ?_
  rintro e w2 ⟨rfl, B2⟩
  have Q2 := Lib.hid (bot Q1.out B2); clear B2 b1 b2 b3
  cases v2
  · have He : Hid (R = false) := HR.out
    go_wp2_with fail
    go_ret
    exact ⟨ret_bool He.out.symm, HS.out _ Q2.out⟩
  have b1 := below_cell Q2.out a4 hz
  go_wp2_with fail
  refine (H3.out w2 (HS.out _ Q2.out)).mono ?_
  rintro e w3 ⟨rfl, B3⟩
  have Q3 := Lib.hid (bot Q2.out B3); clear B3 b1
  cases v3
  · have He : Hid (R = false) := HR.out
    go_wp2_with fail
    go_ret
    exact ⟨ret_bool He.out.symm, HS.out _ Q3.out⟩
  have b1 := below_cell Q3.out a5 hz
  go_wp2_with fail
  refine (H4.out w3 (HS.out _ Q3.out)).mono ?_
  rintro e w4 ⟨rfl, B4⟩
  have Q4 := Lib.hid (bot Q3.out B4); clear B4 b1
  cases v4
  · have He : Hid (R = false) := HR.out
    go_wp2_with fail
    go_ret
    exact ⟨ret_bool He.out.symm, HS.out _ Q4.out⟩
  have b1 := below_cell Q4.out a6 hz
  go_wp2_with fail
  refine (H5.out w4 (HS.out _ Q4.out)).mono ?_
  rintro e w5 ⟨rfl, B5⟩
  have Q5 := Lib.hid (bot Q4.out B5); clear B5 b1
  cases v5
  · have He : Hid (R = false) := HR.out
    go_wp2_with fail
    go_ret
    exact ⟨ret_bool He.out.symm, HS.out _ Q5.out⟩
  have Hv6 : Hid (v6 = (g1 && g2 && g3)) := Hap.out (by trivial) (by trivial) (by trivial)
  clear Hap
  have b4 := below_cell Q5.out a4 hz
  have b5 := below_cell Q5.out a5 hz
  go_wp2_with fail
  refine (G1.out w5 (HS.out _ Q5.out)).mono ?_
  rintro e w6 ⟨rfl, B6⟩
  have Q6 := Lib.hid (bot Q5.out B6); clear B6 b4 b5
  cases g1
  · have He : Hid (R = false) := by unfold Hid; rw [HR.out, Hv6.out]; rfl
    go_wp2_with fail
    go_ret
    exact ⟨ret_bool He.out.symm, HS.out _ Q6.out⟩
  have b4 := below_cell Q6.out a4 hz
  have b5 := below_cell Q6.out a6 hz
  go_wp2_with fail
  refine (G2.out w6 (HS.out _ Q6.out)).mono ?_
  rintro e w61 ⟨rfl, B6⟩
  have Q61 := Lib.hid (bot Q6.out B6); clear B6 b4 b5
  cases g2
  · have He : Hid (R = false) := by unfold Hid; rw [HR.out, Hv6.out]; rfl
    go_wp2_with fail
    go_ret
    exact ⟨ret_bool He.out.symm, HS.out _ Q61.out⟩
  have b4 := below_cell Q61.out a5 hz
  have b5 := below_cell Q61.out a6 hz
  go_wp2_with fail
  refine (G3.out w61 (HS.out _ Q61.out)).mono ?_
  rintro e w62 ⟨rfl, B6⟩
  have Q62 := Lib.hid (bot Q61.out B6); clear B6 b4 b5
  cases g3
  · have He : Hid (R = false) := by unfold Hid; rw [HR.out, Hv6.out]; rfl
    go_wp2_with fail
    go_ret
    exact ⟨ret_bool He.out.symm, HS.out _ Q62.out⟩
  have Hv : Hid (v6 = true) := Hv6.out
  clear Hv6
  have b0 := below_cell Q62.out a0 hz
  have b1 := below_cell Q62.out a1 hz
  have b2 := below_cell Q62.out a2 hz
  have b3 := below_cell Q62.out a3 hz
  have b4 := below_cell Q62.out a4 hz
  have b5 := below_cell Q62.out a5 hz
  have b6 := below_cell Q62.out a6 hz
  go_wp2_with fail
  refine (Htx.out w62 trivial trivial trivial trivial (HS.out _ Q62.out)).mono ?_
  rintro e w7 ⟨rfl, B7⟩
  have Q7 := Lib.hid (bot Q62.out B7); clear B7 b0 b1 b2 b3 b4 b5 b6
  by_cases hs : T.size ≤ 4096
  · have He : Hid (R = true) := by unfold Hid; rw [HR.out, Hv.out]; simp [hs]
    have hsi : (T.size : Int) ≤ 4096 := by omega
    clear hs
    go_wp2_with fail
    go_ret
    exact ⟨ret_bool (by rw [He.out]), HS.out _ Q7.out⟩
  · have He : Hid (R = false) := by unfold Hid; rw [HR.out, Hv.out]; simp [hs]
    have hsi : ¬ (T.size : Int) ≤ 4096 := by omega
    clear hs
    go_wp2_with fail
    go_ret
    exact ⟨ret_bool (by rw [He.out]; first | rfl | simp [hsi]), HS.out _ Q7.out⟩
end Go.Proofs.YtminjjdnmpaaoaaGreatDoor
