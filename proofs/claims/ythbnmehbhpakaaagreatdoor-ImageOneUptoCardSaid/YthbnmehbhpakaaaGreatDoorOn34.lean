/-
  image.Read of no file and of one file: walked.
  Two lists of files held against one another; what the law of a project's files looks at besides.
  Which files a project has, file by file.
-/
import Derived.Test.YthbnmehbhpakaaaGreatDoorOn33
import Derived.Test.YthbnmehbhpakaaaGreatDoorOn25
import Derived.Test.YthbnmehbhpakaaaGreatDoorOn22
import Derived.Test.YthbnmehbhpakaaaGreatDoorOn32
import Derived.Test.YthbnmehbhpakaaaGreatDoorOn21
set_option autoImplicit false
set_option relaxedAutoImplicit false
set_option linter.unusedVariables false
set_option linter.unusedSimpArgs false
namespace Go.Proofs.YthbnmehbhpakaaaGreatDoor
open Go.Rows Go.RowKit Go.Shelf Go.Sort Go.Maps

/-! ### a map of files -/
def fileElem : Value → Option (DataW Unit × List MemPlace)
  | .agg cs => match cs.toList with
    | [.string p, .bool d, .string s] => some (.agg [.lit (.string p.data.toList), .lit (.bool d), .lit (.string s.data.toList)], [])
    | _ => none
  | _ => none
def fileD (p : ByteArray) (d : Bool) (s : ByteArray) : DataW Unit := .agg [.lit (.string p.data.toList), .lit (.bool d), .lit (.string s.data.toList)]
theorem fileElem_mk (p : ByteArray) (d : Bool) (s : ByteArray) : fileElem (.agg #[.string p, .bool d, .string s]) = some (fileD p d s, []) := rfl
theorem fileElem_inv {v : Value} {p : ByteArray} {d : Bool} {s : ByteArray} {ps : List MemPlace} (h : fileElem v = some (fileD p d s, ps)) : v = .agg #[.string p, .bool d, .string s] := by
  unfold fileElem at h
  split at h
  · rename_i cs
    split at h
    · rename_i p' d' s' hc
      simp only [fileD, Option.some.injEq, Prod.mk.injEq, DataW.agg.injEq, List.cons.injEq, DataW.lit.injEq, Lit.bool.injEq, Lit.string.injEq, and_true] at h
      obtain ⟨⟨h1, rfl, h2⟩, _⟩ := h
      rw [← data_inj h2, ← data_inj h1]
      congr 1
      exact Array.ext' hc
    · cases h
  · cases h
theorem file_zero (w : World) : (zeroValue 45).run Tryz.prog w = .ok (.agg #[.string ⟨#[]⟩, .bool false, .string ⟨#[]⟩]) w := by kernel_rfl
def xF : ByteArray := ⟨#[47, 120]⟩
/-- the map of the one file -/
def OneM (w : World) (B : Nat) : Prop := w.ownsMap Tryz.prog 9 fileElem B 1 ((DataW.map []).put (.string xF.data.toList) (fileD xF false emB))
theorem OneM.keep {w w' : World} {B : Nat} (h : OneM w B) (hb : Below w.heap.size w w') : OneM w' B :=
  World.ownsMap.kept (row := none) h ⟨hb.os, hb.tape, hb.output, hb.size, fun k hk _ => hb.block k hk⟩ (by simp)
theorem OneM.look {W : World} {B : Nat} (h : OneM W B) : (Instr.lookup 81 (.map (some B)) (.string manF) false).run Tryz.prog W = .ok (.agg #[.string ⟨#[]⟩, .bool false, .string ⟨#[]⟩]) W := by
  have hkey := Go.WideMaps.keyOf_string_mk (P := Tryz.prog) (s := manF) Tryz.underlying9 (by decide)
  obtain ⟨v, ps, r1, r2⟩ := World.ownsMap.lookup h key_law Tryz.underlying81 (file_zero W) (fileElem_mk ⟨#[]⟩ false ⟨#[]⟩) hkey
  rw [atKey_put_other (by intro h; revert h; simp [manF, xF])] at r2
  rw [fileElem_inv r2] at r1
  exact r1

/-! ### manifest.Parse of no text -/
theorem heap_set4e {W : World} {b : Nat} {x0 x1 x2 x3 : Value} {t : TypeId} (h : W.heap[b]? = some (.cells #[x0, x1, x2, x3] t (0, 0))) (a0 a1 a2 a3 : Value) :
    ((((W.setCell ⟨b, 0, none⟩ a0).setCell ⟨b, 1, none⟩ a1).setCell ⟨b, 2, none⟩ a2).setCell ⟨b, 3, none⟩ a3).heap[b]? = some (.cells #[a0, a1, a2, a3] t (0, 0)) := by
  have h0 := heap_set1 (o := 0) h a0
  rw [show (#[x0, x1, x2, x3] : Array Value).setIfInBounds 0 a0 = #[a0, x1, x2, x3] from rfl] at h0
  have h1 := heap_set1 (o := 1) h0 a1
  rw [show (#[a0, x1, x2, x3] : Array Value).setIfInBounds 1 a1 = #[a0, a1, x2, x3] from rfl] at h1
  have h2 := heap_set1 (o := 2) h1 a2
  rw [show (#[a0, a1, x2, x3] : Array Value).setIfInBounds 2 a2 = #[a0, a1, a2, x3] from rfl] at h2
  have h3 := heap_set1 (o := 3) h2 a3
  rw [show (#[a0, a1, a2, x3] : Array Value).setIfInBounds 3 a3 = #[a0, a1, a2, a3] from rfl] at h3
  exact h3
theorem below_set4e {W0 W : World} {B b : Nat} (h : Below B W0 W) (hb : B ≤ b) (a0 a1 a2 a3 : Value) :
    Below B W0 ((((W.setCell ⟨b, 0, none⟩ a0).setCell ⟨b, 1, none⟩ a1).setCell ⟨b, 2, none⟩ a2).setCell ⟨b, 3, none⟩ a3) :=
  (((h.setCell hb a0).setCell hb a1).setCell hb a2).setCell hb a3
theorem scan_none : scanQ 4096 ⟨#[]⟩ = ([], 0) := by
  unfold scanQ linesB
  rw [if_neg (by decide)]
  rfl
set_option maxHeartbeats 1600000 in
set_option maxRecDepth 100000 in
theorem maniParse_none (w : World) : Calls Tryz.prog 38 #[.string ⟨#[]⟩] w fun e w' => e = .returned (.tuple #[.agg #[.slice none 0 0, .slice none 0 0, .slice none 0 0, .slice none 0 0], .int .i64 22]) ∧ Below w.heap.size w w' := by
  go_enter Tryz.func38, Tryz.ntmps38
  go_wp2_with fail
  obtain ⟨w0, hw0⟩ : ∃ w0, w0 = w.alloc (.cells #[.slice none 0 0, .slice none 0 0, .slice none 0 0, .slice none 0 0] 24) := ⟨_, rfl⟩
  have hr0 : w0.heap[w.heap.size]? = some (.cells #[.slice none 0 0, .slice none 0 0, .slice none 0 0, .slice none 0 0] 24 (0, 0)) := by rw [hw0]; exact heap_alloc_new w _
  have HB0 : Hid (Below w.heap.size w w0) := by unfold Hid; rw [hw0]; exact bal (Below.refl _ _) _
  have hz0 : w.heap.size < w0.heap.size := (Array.getElem?_eq_some_iff.1 hr0).1
  have Hr0 := Lib.hid hr0
  rw [← hw0]
  clear hw0 hr0
  refine (scanLines_any ⟨#[]⟩ 4096 w0 (by decide) (by decide)).mono ?_
  rintro e w1 ⟨v, ⟨k, rfl⟩, hs, hb⟩
  rw [scan_none] at hs ⊢
  obtain ⟨A, c, rfl, _, _⟩ := hs.val
  have Hr1 : Hid (w1.heap[w.heap.size]? = some (.cells #[.slice none 0 0, .slice none 0 0, .slice none 0 0, .slice none 0 0] 24 (0, 0))) := (hb.block _ hz0).trans Hr0.out
  have HB1 := Lib.hid (bot HB0.out hb)
  obtain ⟨⟨a0, a1, a2, a3⟩, f0, f1, f2, f3⟩ := row4 Hr1.out
  clear hs hb HB0 Hr0
  go_wp2_with fail
  refine ret_cells rfl rfl rfl rfl (heap_set4e Hr1.out _ _ _ _) Tryz.underlying24 rfl (by kernel_rfl) ⟨rfl, below_set4e HB1.out (Nat.le_refl _) _ _ _ _⟩

/-! ### image.Read -/
set_option maxHeartbeats 3200000 in
set_option maxRecDepth 100000 in
theorem imgRead_none (w : World) (hm : MaxL w) : Calls Tryz.prog 12 #[.slice none 0 0] w fun e w' => (∃ A5 A6, e = .returned (.tuple #[.agg #[.slice none 0 0, .slice none 0 0, .slice none 0 0, .slice none 0 0, .slice (some A5) 1 1, .slice (some A6) 1 1, .bool false], .int .i64 0])) ∧ Below w.heap.size w w' := by
  have Hm := Lib.hid hm
  clear hm
  go_enter Tryz.func12, Tryz.ntmps12
  go_wp2_with fail
  obtain ⟨w0, hw0⟩ : ∃ w0, w0 = w.alloc (.cells #[.slice none 0 0, .slice none 0 0, .slice none 0 0, .slice none 0 0, .slice none 0 0, .slice none 0 0, .bool false] 32) := ⟨_, rfl⟩
  have hr0 : w0.heap[w.heap.size]? = some (.cells #[.slice none 0 0, .slice none 0 0, .slice none 0 0, .slice none 0 0, .slice none 0 0, .slice none 0 0, .bool false] 32 (0, 0)) := by rw [hw0]; exact heap_alloc_new w _
  have HB0 : Hid (Below w.heap.size w w0) := by unfold Hid; rw [hw0]; exact bal (Below.refl _ _) _
  have hz0 : w.heap.size < w0.heap.size := (Array.getElem?_eq_some_iff.1 hr0).1
  have Hr0 := Lib.hid hr0
  rw [← hw0]
  clear hw0 hr0
  refine (diskLoad_any none 0 0 [] w0 (fun _ => True) ((Hm.out).below HB0.out) (SlV.nil_ _ _ _) (by decide) (by simp)).mono ?_
  rintro e w1 ⟨hl, hb⟩
  rcases hl with ⟨hf, _⟩ | ⟨_, d, B, rv, zv, rfl, _, _⟩
  · cases hf
  have Hr1 := Lib.hid ((hb.block _ hz0).trans Hr0.out)
  have HB1 := Lib.hid (bot HB0.out hb)
  have hz1 : w.heap.size < w1.heap.size := Nat.lt_of_lt_of_le hz0 hb.size
  clear hb HB0 Hr0
  go_wp2_with fail
  refine (imgEmpty_any w1).mono ?_
  rintro e w2 ⟨⟨A5, A6, rfl, _⟩, hb⟩
  have Hr2 := Lib.hid ((hb.block _ hz1).trans Hr1.out)
  have HB2 := Lib.hid (bot HB1.out hb)
  obtain ⟨⟨a0, a1, a2, a3, a4, a5, a6⟩, f0, f1, f2, f3, f4, f5, f6⟩ := row7 Hr2.out
  clear hb HB1 Hr1
  go_wp2_with fail
  refine ret_cells rfl rfl rfl rfl (heap_set7 Hr2.out _ _ _ _ _ _ _) Tryz.underlying32 rfl (by kernel_rfl) ⟨⟨_, _, rfl⟩, below_set7 HB2.out (Nat.le_refl _) _ _ _ _ _ _ _⟩

set_option maxHeartbeats 6400000 in
set_option maxRecDepth 100000 in
theorem imgRead_x (A : Option Addr) (c : Nat) (S : Nat → Prop) (w : World) (hm : MaxL w) (hl : SlV rFile w S [⟨xF, false, emB⟩] (.slice A 1 c)) : Calls Tryz.prog 12 #[.slice A 1 c] w fun e w' => e = .returned (.tuple #[.agg #[.slice none 0 0, .slice none 0 0, .slice none 0 0, .slice none 0 0, .slice none 0 0, .slice none 0 0, .bool false], .int .i64 43]) ∧ Below w.heap.size w w' := by
  have Hm := Lib.hid hm
  have HL := Lib.hid hl
  obtain ⟨b, o, cs, rfl, _, hbl, ⟨rfl, _⟩, hcell⟩ := hl.elem (i := 0) (x := ⟨xF, false, emB⟩) rfl
  have c0 := hcell 0 _ rfl
  have c1 := hcell 1 _ rfl
  have c2 := hcell 2 _ rfl
  simp only [rFile, Nat.add_zero, Nat.zero_mul] at c0 c1 c2
  clear hm hl hcell
  go_enter Tryz.func12, Tryz.ntmps12
  go_wp2_with fail
  obtain ⟨w0, hw0⟩ : ∃ w0, w0 = w.alloc (.cells #[.slice none 0 0, .slice none 0 0, .slice none 0 0, .slice none 0 0, .slice none 0 0, .slice none 0 0, .bool false] 32) := ⟨_, rfl⟩
  have hr0 : w0.heap[w.heap.size]? = some (.cells #[.slice none 0 0, .slice none 0 0, .slice none 0 0, .slice none 0 0, .slice none 0 0, .slice none 0 0, .bool false] 32 (0, 0)) := by rw [hw0]; exact heap_alloc_new w _
  have HB0 : Hid (Below w.heap.size w w0) := by unfold Hid; rw [hw0]; exact bal (Below.refl _ _) _
  have hz0 : w.heap.size < w0.heap.size := (Array.getElem?_eq_some_iff.1 hr0).1
  have Hr0 := Lib.hid hr0
  rw [← hw0]
  clear hw0 hr0
  refine (diskLoad_any (some ⟨b, o, none⟩) 1 c [⟨xF, false, emB⟩] w0 S ((Hm.out).below HB0.out) (HL.out.belowSize HB0.out) (by decide) (by intro f hf; rw [List.mem_singleton.1 hf]; decide)).mono ?_
  rintro e w1 ⟨hl, hb⟩
  have Hr1 := Lib.hid ((hb.block _ hz0).trans Hr0.out)
  have HB1 := Lib.hid (bot HB0.out hb)
  have hz1 : w.heap.size < w1.heap.size := Nat.lt_of_lt_of_le hz0 hb.size
  clear hb HB0 Hr0
  rcases hl with ⟨_, rfl⟩ | ⟨_, d, B, rv, zv, rfl, _, _⟩
  · obtain ⟨⟨a0, a1, a2, a3, a4, a5, a6⟩, f0, f1, f2, f3, f4, f5, f6⟩ := row7 Hr1.out
    go_wp2_with fail
    refine ret_cells rfl rfl rfl rfl (heap_set7 Hr1.out _ _ _ _ _ _ _) Tryz.underlying32 rfl (by kernel_rfl) ⟨rfl, below_set7 HB1.out (Nat.le_refl _) _ _ _ _ _ _ _⟩
  have hmm := @run_makeMap Tryz.prog
  go_wp2_with fail
  clear hmm
  obtain ⟨wM, hwM⟩ : ∃ wM, wM = w1.alloc (.map #[] 0) := ⟨_, rfl⟩
  obtain ⟨BM, hBM⟩ : ∃ BM, BM = w1.heap.size := ⟨_, rfl⟩
  have HO0 : Hid (wM.ownsMap Tryz.prog 9 fileElem BM 0 (DataW.map [])) := by unfold Hid; rw [hwM, hBM]; exact World.ownsMap_made _ _ _ _
  have HBM : Hid (Below w1.heap.size w1 wM) := by unfold Hid; rw [hwM]; exact bal (Below.refl _ _) _
  have HRM := Lib.hid ((HBM.out.block _ hz1).trans Hr1.out)
  have hzM : w.heap.size < BM ∧ BM < wM.heap.size := by rw [hBM, hwM]; exact ⟨hz1, by simp [size_allocE]⟩
  rw [← hwM, ← hBM]
  clear hwM hBM
  go_loopw [37] (fun i wr => (i = .int .i64 0 ∧ wr = wM) ∨ (i = .int .i64 1 ∧ Hid (OneM wr BM) ∧ Hid (wr.heap[w.heap.size]? = some (.cells #[.slice none 0 0, .slice none 0 0, .slice none 0 0, .slice none 0 0, .slice none 0 0, .slice none 0 0, .bool false] 32 (0, 0))) ∧ Hid (Below w.heap.size w wr) ∧ w.heap.size < wr.heap.size)) (fun i _ => 1 - (intOf i).toNat)
  case atStart => exact .inl ⟨rfl, rfl⟩
  case round =>
    rcases hrel with ⟨rfl, rfl⟩ | ⟨rfl, HO, HR, HB, hzr⟩
    · have d0 := below_cell (bot HB1.out HBM.out) c0 hbl
      have d1 := below_cell (bot HB1.out HBM.out) c1 hbl
      have d2 := below_cell (bot HB1.out HBM.out) c2 hbl
      clear c0 c1 c2
      go_upto_region 10 with (fail)
      obtain ⟨wf, hwf⟩ : ∃ wf, wf = wr.alloc (.cells #[.string xF, .bool false, .string emB] 45) := ⟨_, rfl⟩
      have hO1 : wf.ownsMap Tryz.prog 9 fileElem BM 0 (DataW.map []) := by rw [hwf]; exact World.ownsMap.kept (row := none) HO0.out (World.grownBy_alloc _ _ _) (by simp)
      have hrf : wf.heap[wr.heap.size]? = some (.cells #[.string xF, .bool false, .string emB] 45 (0, 0)) := by rw [hwf]; exact heap_new _ _
      have e0 := cell_of_row _ _ 0 _ _ _ hrf
      have e1 := cell_of_row _ _ 1 _ _ _ hrf
      have e2 := cell_of_row _ _ 2 _ _ _ hrf
      have hbf : Below wr.heap.size wr wf := by rw [hwf]; exact bal (Below.refl _ _) _
      have HBf := Lib.hid (bot (bot HB1.out HBM.out) hbf)
      have HRf := Lib.hid ((hbf.block _ (by omega)).trans HRM.out)
      have hzf : w.heap.size < wf.heap.size := Nat.lt_of_lt_of_le (by omega) hbf.size
      have hkey := Go.WideMaps.keyOf_string_mk (P := Tryz.prog) (s := xF) Tryz.underlying9 (by decide)
      rw [← hwf]
      clear hwf hrf hbf
      go_wp2_with (first | (at_mapUpdate; refine wpList_mapUpdate_own _ rfl _ _ _ 81 rfl 9 45 key_law Tryz.underlying81 _ BM 0 _ rfl hO1 (by decide) _ _ _ rfl rfl hkey _ [] (fileElem_mk xF false emB) ?_) | go_in)
      intro w2 hown2 hgrow2
      have HO2 : Hid (OneM w2 BM) := hown2
      have HR2 := Lib.hid ((hgrow2.block w.heap.size hzf (fun e => by have := Option.some.inj e; omega)).trans HRf.out)
      have HB2 : Hid (Below w.heap.size w w2) := HBf.out.grown hgrow2 (by omega) (fun g hg => by have := Option.some.inj hg; omega)
      have hz2 : w.heap.size < w2.heap.size := Nat.lt_of_lt_of_le hzf hgrow2.size
      clear hown2 hgrow2 hkey hO1 e0 e1 e2 d0 d1 d2
      go_wp2_with fail
      go_roundw
      case rel => exact .inr ⟨by go_num, HO2, HR2, HB2, hz2⟩
      case measure => simp [intOf]
    · have hlook : (Instr.lookup 81 (.map (some BM)) (.string ⟨#[47, 109, 97, 110, 105, 102, 101, 115, 116]⟩) false).run Tryz.prog wr = .ok (.agg #[.string ⟨#[]⟩, .bool false, .string ⟨#[]⟩]) wr := HO.out.look
      have hfld : ∀ W : World, (Instr.field 45 (.agg #[.string ⟨#[]⟩, .bool false, .string ⟨#[]⟩]) 2).run Tryz.prog W = .ok (.string ⟨#[]⟩) W := fun W => by kernel_rfl
      clear c0 c1 c2
      go_wp2_with fail
      refine (maniParse_none wr).mono ?_
      rintro e w3 ⟨rfl, hb3⟩
      have HR3 := Lib.hid ((hb3.block _ hzr).trans HR.out)
      have HB3 := Lib.hid (bot HB.out hb3)
      have hz3 : w.heap.size < w3.heap.size := Nat.lt_of_lt_of_le hzr hb3.size
      clear hb3 hlook HO HR HB
      obtain ⟨w4, hw4⟩ : ∃ w4, w4 = w3.alloc (.cells #[.slice none 0 0, .slice none 0 0, .slice none 0 0, .slice none 0 0] 24) := ⟨_, rfl⟩
      have hb4 : Below w3.heap.size w3 w4 := by rw [hw4]; exact bal (Below.refl _ _) _
      have HR4 := Lib.hid ((hb4.block _ hz3).trans HR3.out)
      have HB4 := Lib.hid (bot HB3.out hb4)
      obtain ⟨⟨a0, a1, a2, a3, a4, a5, a6⟩, f0, f1, f2, f3, f4, f5, f6⟩ := row7 HR4.out
      go_upto_region 13 with (fail)
      rw [← hw4]
      clear hw4 hb4 HR3 HB3
      go_wp2_with fail
      refine ret_cells rfl rfl rfl rfl (heap_set7 HR4.out _ _ _ _ _ _ _) Tryz.underlying32 rfl (by kernel_rfl) ⟨rfl, below_set7 HB4.out (Nat.le_refl _) _ _ _ _ _ _ _⟩
end Go.Proofs.YthbnmehbhpakaaaGreatDoor
set_option autoImplicit false
set_option relaxedAutoImplicit false
set_option linter.unusedVariables false
set_option linter.unusedSimpArgs false
namespace Go.Proofs.YthbnmehbhpakaaaGreatDoor
open Go.Rows Go.RowKit Go.Shelf Go.Sort

theorem neq_file (w : World) (p q : ByteArray) (d e : Bool) (s t : ByteArray) :
    (binOp .neq 45 (.agg #[.string p, .bool d, .string s]) (.agg #[.string q, .bool e, .string t])).run Tryz.prog w = .ok (.bool (!eqB (⟨p, d, s⟩ : File) ⟨q, e, t⟩)) w := by
  have hu' := Tryz.underlying45
  have hu : Tryz.prog.underlying 45 = some (.struct (Tryz.prog.fieldsOf 45)) := by kernel_rfl
  have hs : Tryz.prog.stoodInHeld 45 = false := by kernel_rfl
  have h3 : ∀ w, (isAgg 9).run Tryz.prog w = .ok false w := fun _ => by kernel_rfl
  have h4 : ∀ w, (isAgg 4).run Tryz.prog w = .ok false w := fun _ => by kernel_rfl
  rw [run_neq_struct, show (10000 : Nat) = 9998 + 2 from rfl, show 9998 + 2 = (9998 + 1) + 1 from rfl, run_equalIn_agg _ _ _ _ _ hu hs]
  have he : ∀ (x y : ByteArray) (w : World), (Op.equalIn (9998 + 1) 9 (.string x) (.string y)).run Tryz.prog w = .ok (x.toList == y.toList) w := fun x y w => by
    rw [run_equalIn_string (h := Tryz.underlying9)]
  have hb : ∀ (x y : Bool) (w : World), (Op.equalIn (9998 + 1) 4 (.bool x) (.bool y)).run Tryz.prog w = .ok (x == y) w := fun x y w => by
    rw [run_equalIn_bool' (h := Tryz.underlying4)]
  generalize 9998 + 1 = D at *
  have hx : ∀ x y : ByteArray, (x.toList == y.toList) = true ↔ x = y := fun x y => by
    rw [beq_iff_eq]
    constructor
    · intro h
      rw [Go.ByteArray.toList_eq, Go.ByteArray.toList_eq] at h
      exact ByteArray.ext (Array.toList_inj.1 h)
    · intro h; rw [h]
  by_cases g1 : p = q
  · by_cases g2 : d = e
    · by_cases g3 : s = t
      · have hr : eqB (⟨p, d, s⟩ : File) ⟨q, e, t⟩ = true := eqB_true (by rw [g1, g2, g3])
        rw [hr]
        simp [Program.fieldsOf, hu', Op.eqFields, part, h3, h4, he, hb, g1, g2, g3]
      · have hr : eqB (⟨p, d, s⟩ : File) ⟨q, e, t⟩ = false := eqB_false (fun h => g3 (by injection h))
        have h9 : (s.toList == t.toList) = false := by cases h : (s.toList == t.toList) with
          | false => rfl
          | true => exact absurd ((hx _ _).1 h) g3
        rw [hr]
        simp [Program.fieldsOf, hu', Op.eqFields, part, h3, h4, he, hb, g1, g2, h9]
    · have hr : eqB (⟨p, d, s⟩ : File) ⟨q, e, t⟩ = false := eqB_false (fun h => g2 (by injection h))
      rw [hr]
      simp [Program.fieldsOf, hu', Op.eqFields, part, h3, h4, he, hb, g1, g2]
  · have hr : eqB (⟨p, d, s⟩ : File) ⟨q, e, t⟩ = false := eqB_false (fun h => g1 (by injection h))
    have h9 : (p.toList == q.toList) = false := by cases h : (p.toList == q.toList) with
      | false => rfl
      | true => exact absurd ((hx _ _).1 h) g1
    rw [hr]
    simp [Program.fieldsOf, hu', Op.eqFields, part, h3, h4, he, hb, h9]

set_option maxHeartbeats 1600000 in
set_option maxRecDepth 100000 in
theorem files15_any (A B : Option Addr) (n m c d : Nat) (xs ys : List File) (w : World) (S T : Nat → Prop) (hx : SlV rFile w S xs (.slice A n c)) (hy : SlV rFile w T ys (.slice B m d)) :
    Calls Tryz.prog 10 #[.slice A n c, .slice B m d] w fun e w' => e = .returned (.bool (eqB xs ys)) ∧ Below w.heap.size w w' := by
  have hnx := hx.n_eq
  have hny := hy.n_eq
  have hcx := hx.cap_le
  have hcy := hy.cap_le
  unfold maxLen at hcx hcy
  by_cases hnm : n = m
  · have hb : ((n : Int) != (m : Int)) = false := by simp [hnm]
    have hn63 : n ≤ 9223372036854775807 := by omega
    have hx' := hx.more (S' := fun b => b < w.heap.size) fun b _ h => h
    have hy' := hy.more (S' := fun b => b < w.heap.size) fun b _ h => h
    have Hpos : Hid (xs = ys → eqB xs ys = true) := fun h => eqB_true h
    have Hneg : Hid (xs ≠ ys → eqB xs ys = false) := fun h => eqB_false h
    have Hnm := Lib.hid hnm; clear hnm
    have Hnx := Lib.hid hnx; clear hnx
    have Hny := Lib.hid hny; clear hny
    clear hcx hcy hx hy
    generalize eqB xs ys = r at *
    go_enter Tryz.func10, Tryz.ntmps10
    go_wp2_with fail
    go_loopw [5] (fun i wr => ∃ k : Nat, k ≤ n ∧ i = .int .i64 k ∧ Hid (xs.take k = ys.take k) ∧ Below w.heap.size w wr) (fun i _ => n - (intOf i).toNat)
    case atStart => exact ⟨0, Nat.zero_le _, rfl, by simp [Hid], Below.refl _ _⟩
    case round =>
      obtain ⟨k, hk, rfl, heq, hbel⟩ := hrel
      by_cases hlt : k < n
      · have hkx : k < xs.length := by have := Hnx.out; omega
        have hky : k < ys.length := by have := Hny.out; have := Hnm.out; omega
        have hkm : k < m := by have := Hnm.out; omega
        have hxw := hx'.below hbel (fun b h => h)
        have hyw := hy'.below hbel (fun b h => h)
        obtain ⟨b, o, cs, rfl, _, hb1, ⟨rfl, _, _⟩, hcell⟩ := hxw.elem (List.getElem?_eq_getElem hkx)
        obtain ⟨b', o', cs', rfl, _, hb2, ⟨rfl, _, _⟩, hcell'⟩ := hyw.elem (List.getElem?_eq_getElem hky)
        have c0 := hcell 0 _ rfl
        have c1 := hcell 1 _ rfl
        have c2 := hcell 2 _ rfl
        have d0 := hcell' 0 _ rfl
        have d1 := hcell' 1 _ rfl
        have d2 := hcell' 2 _ rfl
        simp only [rFile, Nat.add_zero] at c0 c1 c2 d0 d1 d2
        clear hcell hcell' hxw hyw
        have Hne := Lib.hid (fun h => ne_at hkx hky h)
        have Hen := Lib.hid (fun h => take_next heq.out hkx hky h)
        have hop : ∀ W, (binOp .neq 45 (.agg #[.string xs[k].path, .bool xs[k].dir, .string xs[k].data]) (.agg #[.string ys[k].path, .bool ys[k].dir, .string ys[k].data])).run Tryz.prog W = .ok (.bool (!eqB xs[k] ys[k])) W := fun W => neq_file W _ _ _ _ _ _
        have Hq1 : Hid (eqB xs[k] ys[k] = true → xs.take (k + 1) = ys.take (k + 1)) := fun h => Hen.out (eqB_iff.1 h)
        have Hq2 : Hid (eqB xs[k] ys[k] = false → r = false) := fun h => Hneg.out (Hne.out (fun e => by rw [eqB_true e] at h; cases h))
        clear Hne Hen
        have hk0 : (0 : Int) ≤ (k : Int) := by omega
        have hkn : (k : Int) < (n : Int) := by omega
        have hkm' : (k : Int) < (m : Int) := by omega
        generalize eqB xs[k] ys[k] = q at *
        generalize xs[k].path = x1 at *
        generalize xs[k].dir = x2 at *
        generalize xs[k].data = x3 at *
        generalize ys[k].path = y1 at *
        generalize ys[k].dir = y2 at *
        generalize ys[k].data = y3 at *
        have r_c0 := cell_regrown c0
        have r_c1 := cell_regrown c1
        have r_c2 := cell_regrown c2
        have r_d0 := cell_regrown d0
        have r_d1 := cell_regrown d1
        have r_d2 := cell_regrown d2
        cases q
        · have He := Lib.hid (Hq2.out rfl)
          clear Hq1 Hq2
          go_wp2_with fail
          refine wp_region_qb (by kernel_rfl) (by kernel_rfl) ?_
          repeat (go_big_quiet_step (first | fail))
          refine wpQuiet_nil ?_
          intro w1 B1
          go_wp2_with fail
          go_ret
          exact ⟨ret_bool He.out.symm, bot hbel B1⟩
        · have He := Lib.hid (Hq1.out rfl)
          clear Hq1 Hq2
          go_wp2_with fail
          refine wp_region_qb (by kernel_rfl) (by kernel_rfl) ?_
          repeat (go_big_quiet_step (first | fail))
          refine wpQuiet_nil ?_
          intro w1 B1
          go_wp2_with fail
          go_roundw
          case rel => exact ⟨k + 1, by omega, by go_num, He, bot hbel B1⟩
          case measure => simp [intOf]; omega
      · have He : Hid (r = true) := Hpos.out (eq_of_takes heq.out (by have := Hnx.out; omega) (by have := Hny.out; have := Hnm.out; omega))
        go_wp2_with fail
        go_ret
        exact ⟨ret_bool He.out.symm, hbel⟩
  · have hb : ((n : Int) != (m : Int)) = true := by simp; omega
    have He : Hid (eqB xs ys = false) := eqB_false (by rintro rfl; omega)
    clear hnx hny hcx hcy hx hy hnm
    generalize eqB xs ys = r at *
    go_enter Tryz.func10, Tryz.ntmps10
    go_wp2_with fail
    go_ret
    exact ⟨ret_bool He.out.symm, Below.refl _ _⟩

set_option maxHeartbeats 6400000 in
set_option maxRecDepth 100000 in
theorem lives15_any (w : World) (ht : Tab w) (hm : MaxL w) : Calls Tryz.prog 11 #[] w fun e w' => e = .returned (.bool true) ∧ Below w.heap.size w w' := by
  have Ht := Lib.hid ht
  have Hm := Lib.hid hm
  clear ht hm
  go_enter Tryz.func11, Tryz.ntmps11
  go_wp2_with fail
  refine (imgEmpty_any w).mono ?_
  rintro e w1 ⟨⟨A5, A6, rfl, hv⟩, hb⟩
  have HF := Lib.hid (files_any proj0 _ w1 _ (tab_below Ht.out hb) projZ_0 hv)
  have HB1 := Lib.hid hb
  clear hb hv
  rw [imgF_0] at HF
  go_wp2_with fail
  refine HF.out.mono ?_
  rintro e w2 ⟨⟨u, rfl, hu⟩, hb⟩
  obtain ⟨A, c, rfl, _, _⟩ := hu.val
  have HB2 := Lib.hid (bot HB1.out hb)
  clear hb hu HB1 HF
  go_wp2_with fail
  refine (imgRead_none w2 ((Hm.out).below HB2.out)).mono ?_
  rintro e w3 ⟨⟨B5, B6, rfl⟩, hb⟩
  have HB3 := Lib.hid (bot HB2.out hb)
  clear hb HB2
  go_upto_region 3 with (fail)
  obtain ⟨w4, hw4⟩ : ∃ w4, w4 = w3.alloc (.cells #[.slice none 0 0, .slice none 0 0, .slice none 0 0, .slice none 0 0, .slice (some B5) 1 1, .slice (some B6) 1 1, .bool false] 32) := ⟨_, rfl⟩
  have hr4 : w4.heap[w3.heap.size]? = some (.cells #[.slice none 0 0, .slice none 0 0, .slice none 0 0, .slice none 0 0, .slice (some B5) 1 1, .slice (some B6) 1 1, .bool false] 32 (0, 0)) := by rw [hw4]; exact heap_alloc_new w3 _
  have HB4 : Hid (Below w.heap.size w w4) := by unfold Hid; rw [hw4]; exact bal HB3.out _
  have Hr4 := Lib.hid hr4
  rw [← hw4]
  clear hw4 hr4 HB3
  obtain ⟨q, hq⟩ : ∃ q, q = w3.heap.size := ⟨_, rfl⟩
  rw [← hq] at Hr4 ⊢
  clear hq
  go_wp2_with fail
  obtain ⟨w5, hw5⟩ : ∃ w5, w5 = w4.alloc (.cells #[.string xF, .bool false, .string emB] 45) := ⟨_, rfl⟩
  have hb5 : Below w4.heap.size w4 w5 := by rw [hw5]; exact bal (Below.refl _ _) _
  have hs5 : SlV rFile w5 (fun b => b = w4.heap.size) [⟨xF, false, emB⟩] (.slice (some ⟨w4.heap.size, 0, none⟩) 1 1) := by
    rw [hw5]
    exact SlV.of_block (S := fun b => b = w4.heap.size) (l := [(⟨xF, false, emB⟩ : File)]) (heap_new _ _) (Elems.one_ (r := rFile) (x := ⟨xF, false, emB⟩) (cs := [.string xF, .bool false, .string emB]) ⟨rfl, by decide, by decide⟩) rfl rfl (by decide) (by decide)
  have HB5 := Lib.hid (bot HB4.out hb5)
  have HR := Lib.hid (imgRead_x _ 1 _ w5 ((Hm.out).below HB5.out) hs5)
  rw [show (⟨#[47, 120]⟩ : ByteArray) = xF from rfl, show (⟨#[]⟩ : ByteArray) = emB from rfl, ← hw5]
  have hz4 : q < w4.heap.size := (Array.getElem?_eq_some_iff.1 Hr4.out).1
  have Hr5 := Lib.hid ((hb5.block _ hz4).trans Hr4.out)
  have hz5 : q < w5.heap.size := Nat.lt_of_lt_of_le hz4 hb5.size
  clear hw5 hb5 hs5 HB4 Hr4
  refine HR.out.mono ?_
  rintro e w6 ⟨rfl, hb⟩
  have HB6 := Lib.hid (bot HB5.out hb)
  have Hr6 := Lib.hid ((hb.block _ hz5).trans Hr5.out)
  have hz6 : q < w6.heap.size := Nat.lt_of_lt_of_le hz5 hb.size
  clear hb HB5 Hr5 HR
  go_upto_region 4 with (fail)
  obtain ⟨w7, hw7⟩ : ∃ w7, w7 = w6.alloc (.cells #[.slice none 0 0, .slice none 0 0, .slice none 0 0, .slice none 0 0, .slice none 0 0, .slice none 0 0, .bool false] 32) := ⟨_, rfl⟩
  have hb7 : Below w6.heap.size w6 w7 := by rw [hw7]; exact bal (Below.refl _ _) _
  have HB7 := Lib.hid (bot HB6.out hb7)
  have Hr7 := Lib.hid ((hb7.block _ hz6).trans Hr6.out)
  rw [← hw7]
  clear hw7 hb7 HB6 Hr6
  have a4 := cell_of_row _ _ 4 _ _ _ Hr7.out
  have a5 := cell_of_row _ _ 5 _ _ _ Hr7.out
  go_wp2_with fail
  go_ret
  exact ⟨rfl, HB7.out⟩
end Go.Proofs.YthbnmehbhpakaaaGreatDoor
set_option autoImplicit false
set_option relaxedAutoImplicit false
set_option linter.unusedVariables false
set_option linter.unusedSimpArgs false
namespace Go.Proofs.YthbnmehbhpakaaaGreatDoor
open Go

/-! ### which files there are -/
theorem imgDirs_mem {xs : List Dir} : ∀ {l : List Dir} {i : Nat} {f : File}, f ∈ imgDirs xs i l ↔ ∃ j d, l[j]? = some d ∧ f ∈ imgDir xs (i + j) d
  | [], i, f => by
    constructor
    · intro h; cases h
    · rintro ⟨j, d, h, _⟩; simp at h
  | d :: l, i, f => by
    rw [imgDirs, List.mem_append, imgDirs_mem]
    constructor
    · rintro (h | ⟨j, e, he, h⟩)
      · exact ⟨0, d, rfl, h⟩
      · exact ⟨j + 1, e, he, by rwa [show i + (j + 1) = i + 1 + j from by omega]⟩
    · rintro ⟨j, e, he, h⟩
      cases j with
      | zero =>
        have he' : d = e := by simpa using he
        subst he'
        exact .inl h
      | succ j => exact .inr ⟨j, e, he, by rwa [show i + 1 + j = i + (j + 1) from by omega]⟩
def FileOf (s : Proj) (f : File) : Prop :=
  (∃ x, (x = manK ∨ x = lokK ∨ x = pruK) ∧ f.path = mkP [x] ∧ f.dir = false) ∨
  (∃ j d, s.dirs[j]? = some d ∧ ((j ≠ 0 ∧ f.path = mkP (segs d.path) ∧ f.dir = true ∧ f.data = emB) ∨ (j ≠ 0 ∧ f.path = mkP (segs d.path ++ [pkgK]) ∧ f.dir = false) ∨
    (insideL s.dirs j ≠ [] ∧ f.path = mkP (segs d.path ++ [modK]) ∧ f.dir = true ∧ f.data = emB)))
theorem key_man : manF = mkP [manK] := by apply ByteArray.ext; decide +kernel
theorem key_lok : lokF = mkP [lokK] := by apply ByteArray.ext; decide +kernel
theorem key_pru : pruF = mkP [pruK] := by apply ByteArray.ext; decide +kernel
theorem key_mod : modF = mkP [modK] := by apply ByteArray.ext; decide +kernel
theorem key_pkg : pkgF = mkP [pkgK] := by apply ByteArray.ext; decide +kernel
theorem key_home {p : List ByteArray} (h0 : p ≠ []) (h : p.all nameB = true) (x : List UInt8) : textB p ++ mkP [x] = mkP (segs p ++ [x]) := by rw [mkP_append, textB_segs h0 h]
theorem imgU_cases {s : Proj} (hd : ∀ j d, s.dirs[j]? = some d → DirK j d) {f : File} (hf : f ∈ imgU s) : FileOf s f := by
  unfold imgU at hf
  rcases List.mem_append.1 hf with hf | hf
  · rcases List.mem_cons.1 hf with rfl | hf
    · exact .inl ⟨manK, .inl rfl, key_man, rfl⟩
    · rw [List.mem_singleton.1 hf]
      exact .inl ⟨lokK, .inr (.inl rfl), key_lok, rfl⟩
  rcases List.mem_append.1 hf with hf | hf
  · split at hf
    · rw [List.mem_singleton.1 hf]
      exact .inl ⟨pruK, .inr (.inr rfl), key_pru, rfl⟩
    · cases hf
  obtain ⟨j, d, hj, h⟩ := imgDirs_mem.1 hf
  rw [Nat.zero_add] at h
  have hK := hd j d hj
  refine .inr ⟨j, d, hj, ?_⟩
  unfold imgDir at h
  rcases List.mem_append.1 h with h | h
  · split at h
    · cases h
    rename_i h0
    have hp : d.path ≠ [] := fun e => h0 (hK.2.2 e)
    rcases List.mem_cons.1 h with rfl | h
    · exact .inl ⟨h0, textB_segs hp hK.1, rfl, rfl⟩
    · rw [List.mem_singleton.1 h]
      refine .inr (.inl ⟨h0, ?_, rfl⟩)
      show textB d.path ++ pkgF = _
      rw [key_pkg, key_home hp hK.1]
  · split at h
    · cases h
    rename_i h1
    rw [List.mem_singleton.1 h]
    refine .inr (.inr ⟨h1, ?_, rfl, rfl⟩)
    show (if j = 0 then modF else textB d.path ++ modF) = _
    split
    · rename_i h0
      rw [hK.2.1 h0, key_mod]; rfl
    · rename_i h0
      have hp : d.path ≠ [] := fun e => h0 (hK.2.2 e)
      rw [key_mod, key_home hp hK.1]
theorem imgU_dir {s : Proj} (hd : ∀ j d, s.dirs[j]? = some d → DirK j d) {j : Nat} {d : Dir} (hj : s.dirs[j]? = some d) (h0 : j ≠ 0) :
    (⟨mkP (segs d.path), true, emB⟩ : File) ∈ imgU s ∧ (⟨mkP (segs d.path ++ [pkgK]), false, packText d.pack⟩ : File) ∈ imgU s := by
  have hK := hd j d hj
  have hp : d.path ≠ [] := fun e => h0 (hK.2.2 e)
  have hm : ∀ f ∈ imgDir s.dirs j d, f ∈ imgU s := fun f hf => by
    unfold imgU
    exact List.mem_append.2 (.inr (List.mem_append.2 (.inr (imgDirs_mem.2 ⟨j, d, hj, by rw [Nat.zero_add]; exact hf⟩))))
  rw [← textB_segs hp hK.1, ← key_home hp hK.1, ← key_pkg]
  refine ⟨hm _ ?_, hm _ ?_⟩ <;> (unfold imgDir; rw [if_neg h0]; simp)
/-- a project is pruned where that file is -/
theorem imgU_pru {s : Proj} (hd : ∀ j d, s.dirs[j]? = some d → DirK j d) {f : File} (hf : f ∈ imgU s) (hp : f.path = pruF) : s.pruned = true := by
  unfold imgU at hf
  rcases List.mem_append.1 hf with hf | hf
  · rcases List.mem_cons.1 hf with rfl | hf
    · exact absurd (congrArg ByteArray.size hp) (show ¬ manF.size = pruF.size by decide)
    · rw [List.mem_singleton.1 hf] at hp
      exact absurd (congrArg ByteArray.size hp) (show ¬ lokF.size = pruF.size by decide)
  rcases List.mem_append.1 hf with hf | hf
  · split at hf
    · assumption
    · cases hf
  obtain ⟨j, d, hj, h⟩ := imgDirs_mem.1 hf
  rw [Nat.zero_add] at h
  have hK := hd j d hj
  have hcl := segs_clean hK.1
  have hz := segs_len d.path
  have hpc : noSl [pruK] := fun s hs b hb => by rw [List.mem_singleton.1 hs] at hb; revert b hb; decide
  have key : ∀ k, noSl k → mkP k = pruF → k = [pruK] := fun k hk e => mkP_inj hk hpc (e.trans key_pru)
  have hcx : ∀ x : List UInt8, (∀ b ∈ x, (b != 47) = true) → noSl (segs d.path ++ [x]) := fun x hx s hs => by
    rcases List.mem_append.1 hs with hs | hs
    · exact hcl s hs
    · rw [List.mem_singleton.1 hs]; exact hx
  have key2 : ∀ x : List UInt8, (∀ b ∈ x, (b != 47) = true) → mkP (segs d.path ++ [x]) = pruF → x = pruK := fun x hx e => by
    have h1 := key _ (hcx x hx) e
    have h2 := congrArg List.length h1
    rw [List.length_append, List.length_singleton, List.length_singleton] at h2
    have h3 : segs d.path = [] := List.eq_nil_of_length_eq_zero (by omega)
    rw [h3] at h1
    simpa using h1
  unfold imgDir at h
  rcases List.mem_append.1 h with h | h
  · split at h
    · cases h
    rename_i h0
    have hp0 : d.path ≠ [] := fun e => h0 (hK.2.2 e)
    rcases List.mem_cons.1 h with rfl | h
    · have h1 : textB d.path = pruF := hp
      rw [textB_segs hp0 hK.1] at h1
      have h2 := congrArg List.length (key _ hcl h1)
      rw [List.length_singleton] at h2
      omega
    · rw [List.mem_singleton.1 h] at hp
      have h1 : textB d.path ++ pkgF = pruF := hp
      rw [key_pkg, key_home hp0 hK.1] at h1
      exact absurd (key2 pkgK (by decide) h1) (by decide)
  · split at h
    · cases h
    rw [List.mem_singleton.1 h] at hp
    have h1 : (if j = 0 then modF else textB d.path ++ modF) = pruF := hp
    by_cases h0 : j = 0
    · rw [if_pos h0] at h1
      exact absurd (congrArg ByteArray.size h1) (by decide)
    · rw [if_neg h0] at h1
      have hp0 : d.path ≠ [] := fun e => h0 (hK.2.2 e)
      rw [key_mod, key_home hp0 hK.1] at h1
      exact absurd (key2 modK (by decide) h1) (by decide)
end Go.Proofs.YthbnmehbhpakaaaGreatDoor
