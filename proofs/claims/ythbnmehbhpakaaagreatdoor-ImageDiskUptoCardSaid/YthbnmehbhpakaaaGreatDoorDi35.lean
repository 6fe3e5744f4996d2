/-
  The empty project: what it is in plain words; image.Empty, walked.
  image.Read of no file and of one file: walked.
  Two lists of files held against one another; what the law of a project's files looks at besides.
  A graph's text as lines, in plain words; what is written is read as it was; two graphs with one text are the same.
  Two projects with the same files are the same, in plain words.
  The law of two projects with the same files.
-/
import Derived.Test.YthbnmehbhpakaaaGreatDoorDi26
import Derived.Test.YthbnmehbhpakaaaGreatDoorDi29
import Derived.Test.YthbnmehbhpakaaaGreatDoorDi23
import Derived.Test.YthbnmehbhpakaaaGreatDoorDi20
import Derived.Test.YthbnmehbhpakaaaGreatDoorDi34
import Derived.Test.YthbnmehbhpakaaaGreatDoorDi15
import Derived.Test.YthbnmehbhpakaaaGreatDoorDi16
import Derived.Test.YthbnmehbhpakaaaGreatDoorDi30
import Derived.Test.YthbnmehbhpakaaaGreatDoorDi14
set_option autoImplicit false
set_option relaxedAutoImplicit false
set_option linter.unusedVariables false
set_option linter.unusedSimpArgs false
namespace Go.Proofs.YthbnmehbhpakaaaGreatDoor
open Go.Rows Go.RowKit Go.Shelf Go.Sort

def dir00 : Dir := ⟨[], zeroPack, 0⟩
def node00 : Node := ⟨⟨#[]⟩, ⟨0, 0, 0⟩, [], []⟩
def proj0 : Proj := ⟨man0, [node00], [dir00], false⟩
theorem mani0 : maniB man0 = true := by
  have h3 : listB ([] : List Dep) = true := by decide +kernel
  have h4 : nodupB (allNames [[], [], []]) = true := nodupB_true (by simp [allNames, namesOf])
  have h5 : (maniText man0).size ≤ 4096 := by
    unfold maniText
    simp only [ByteArray.size_append]
    have e1 : (linesD needsW man0.deps).size = 0 := rfl
    have e2 : (linesD devW man0.dev).size = 0 := rfl
    have e3 : (linesD likesW man0.opts).size = 0 := rfl
    have e4 : (linesD pinsW man0.over).size = 0 := rfl
    have e5 : projectW.size = 7 := rfl
    have e6 : nlB.size = 1 := rfl
    omega
  unfold maniB
  show (listB ([] : List Dep) && (listB ([] : List Dep) && (listB ([] : List Dep) && (listB ([] : List Dep) && (nodupB (allNames [[], [], []]) && decide ((maniText man0).size ≤ 4096)))))) = true
  rw [h3, h4, decide_eq_true h5]; rfl
theorem lock0 : lockB [node00] = true := by decide +kernel
theorem check0 : checkE [dir00] = 0 := by
  have h0 : rootB dir00 = true := by unfold rootB; rw [show dir00.pack = zeroPack from rfl, eqB_true rfl]; rfl
  unfold checkE
  rw [if_neg (by simp)]
  simp only [okGo, h0]
  rfl
theorem map00 : mapR [dir00] [node00] = (some [0], 0) := by
  unfold mapR
  rw [check0, if_neg (by decide), show formedB [node00] = true by decide +kernel, if_neg (by decide)]
  have e3 : mapLoop [dir00] [node00] 2 ([0], [0]) = some [0] := by
    rw [mapLoop_cons]
    have e1 : mapEdges [dir00] [node00] 0 (edgesOf [node00] (([0] : List Int).getD 0 0)) ([0], []) = some ([0], []) := by
      show mapEdges [dir00] [node00] 0 [] ([0], []) = _
      rw [mapEdges]
    rw [e1]
    show mapLoop [dir00] [node00] 1 ([0], []) = _
    rw [mapLoop]
  have e4 : mapLoop [dir00] [node00] ([dir00].length + 1) (map0 [dir00].length) = some [0] := e3
  rw [e4]
theorem may0 : mayI proj0 = true := by
  unfold mayI placedB
  rw [show proj0.man = man0 from rfl, show proj0.nodes = [node00] from rfl, show proj0.dirs = [dir00] from rfl, mani0, lock0, map00]
  rfl
theorem imgF_0 : imgF proj0 = ([], 0) := by
  have he : emptyQ proj0 = true := by
    unfold emptyQ
    rw [show proj0.man = man0 from rfl, eqB_true rfl]
    rfl
  unfold imgF
  rw [if_pos may0, if_pos he]
theorem projZ_0 : ProjZ proj0 := by
  refine ⟨⟨by decide, ?_⟩, by decide, ?_⟩
  · intro x hx
    rw [List.mem_singleton.1 hx]
    decide
  · intro d hd
    rw [List.mem_singleton.1 hd]
    decide

theorem dir00_holds (w : World) (S : Nat → Prop) : rDir.holds w S dir00 [.slice none 0 0, .string ⟨#[]⟩, .int .i64 0, .int .i64 0, .int .i64 0, .slice none 0 0, .slice none 0 0, .slice none 0 0, .int .i64 0] :=
  ⟨.slice none 0 0, .slice none 0 0, .slice none 0 0, .slice none 0 0, rfl, SlV.nil_ _ _ _, Nat.zero_le _, by unfold I64; decide, by unfold I64; decide, by unfold I64; decide, SlV.nil_ _ _ _, SlV.nil_ _ _ _, SlV.nil_ _ _ _, by unfold I64; decide⟩
theorem node00_holds (w : World) (S : Nat → Prop) : rNode.holds w S node00 [.string ⟨#[]⟩, .int .i64 0, .int .i64 0, .int .i64 0, .slice none 0 0, .slice none 0 0] :=
  ⟨.slice none 0 0, .slice none 0 0, rfl, Nat.zero_le _, by unfold I64; decide, by unfold I64; decide, by unfold I64; decide, SlV.nil_ _ _ _, SlV.nil_ _ _ _⟩
theorem size_allocE (w : World) (o : Obj) : (w.alloc o).heap.size = w.heap.size + 1 := by simp [go_sem]

set_option maxHeartbeats 1600000 in
set_option maxRecDepth 100000 in
theorem imgEmpty_any (w : World) : Calls Tryz.prog 37 #[] w fun e w' => (∃ A5 A6, e = .returned (.agg #[.slice none 0 0, .slice none 0 0, .slice none 0 0, .slice none 0 0, .slice (some A5) 1 1, .slice (some A6) 1 1, .bool false]) ∧
    ProjV w' (fun _ => True) proj0 (.agg #[.slice none 0 0, .slice none 0 0, .slice none 0 0, .slice none 0 0, .slice (some A5) 1 1, .slice (some A6) 1 1, .bool false])) ∧ Below w.heap.size w w' := by
  go_enter Tryz.func37, Tryz.ntmps37
  go_wp2_with fail
  have H0 : ∀ (o o' : Obj) (x : Obj), (((w.alloc x).alloc o).alloc o').heap[w.heap.size]? = (w.alloc x).heap[w.heap.size]? := fun o o' x => (Below.heap_alloc _ _ _ (by simp [size_allocE]; omega)).trans (Below.heap_alloc _ _ _ (by simp [size_allocE]))
  have H1 : ∀ (o o' : Obj) (x : Obj), (((w.alloc x).alloc o).alloc o').heap[w.heap.size + 1]? = ((w.alloc x).alloc o).heap[(w.alloc x).heap.size]? := fun o o' x => by
    rw [size_allocE]
    exact Below.heap_alloc _ _ _ (by simp [size_allocE])
  have H2 : ∀ (o o' : Obj) (x : Obj), (((w.alloc x).alloc o).alloc o').heap[w.heap.size + 1 + 1]? = (((w.alloc x).alloc o).alloc o').heap[((w.alloc x).alloc o).heap.size]? := fun o o' x => by
    rw [size_allocE, size_allocE]
  refine bodyPost_ret (results_cell_row rfl _ _ w.heap.size 32 _ (0, 0) _ rfl ((H0 _ _ _).trans (heap_new w _)) Tryz.underlying32 rfl (by kernel_rfl)) rfl ⟨⟨_, _, rfl, ?_⟩, bal (bal (bal (Below.refl _ _) _) _) _⟩
  refine ⟨none, 0, 0, none, 0, 0, none, 0, 0, none, 0, 0, _, 1, 1, _, 1, 1, rfl, SlV.nil_ _ _ _, SlV.nil_ _ _ _, SlV.nil_ _ _ _, SlV.nil_ _ _ _, ?_, ?_⟩
  · exact SlV.of_block (l := [node00]) ((H1 _ _ _).trans (heap_new _ _)) (Elems.one_ (r := rNode) (x := node00) (cs := [.string ⟨#[]⟩, .int .i64 0, .int .i64 0, .int .i64 0, .slice none 0 0, .slice none 0 0]) (node00_holds _ _)) trivial rfl (by decide) (by decide)
  · exact SlV.of_block (l := [dir00]) ((H2 _ _ _).trans (heap_new _ _)) (Elems.one_ (r := rDir) (x := dir00) (cs := [.slice none 0 0, .string ⟨#[]⟩, .int .i64 0, .int .i64 0, .int .i64 0, .slice none 0 0, .slice none 0 0, .slice none 0 0, .int .i64 0]) (dir00_holds _ _)) trivial rfl (by decide) (by decide)
end Go.Proofs.YthbnmehbhpakaaaGreatDoor
set_option autoImplicit false
set_option relaxedAutoImplicit false
set_option linter.unusedVariables false
set_option linter.unusedSimpArgs false
namespace Go.Proofs.YthbnmehbhpakaaaGreatDoor
open Go.Rows Go.RowKit Go.Shelf Go.Sort Go.Maps

/-! ### a map of files -/
def fileElem : Value → Option (DataW Unit × List MemPlace)
  | .agg cs => match cs.toList with
    | [.string p, .bool d, .string s] => some (.agg [.lit (.string p.data.toList), .lit (.bool d), .lit (.string s.data.toList)], [])
    | _ => none
  | _ => none
def fileD (p : ByteArray) (d : Bool) (s : ByteArray) : DataW Unit := .agg [.lit (.string p.data.toList), .lit (.bool d), .lit (.string s.data.toList)]
theorem fileElem_mk (p : ByteArray) (d : Bool) (s : ByteArray) : fileElem (.agg #[.string p, .bool d, .string s]) = some (fileD p d s, []) := rfl
theorem fileElem_inv {v : Value} {p : ByteArray} {d : Bool} {s : ByteArray} {ps : List MemPlace} (h : fileElem v = some (fileD p d s, ps)) : v = .agg #[.string p, .bool d, .string s] := by
  unfold fileElem at h
  split at h
  · rename_i cs
    split at h
    · rename_i p' d' s' hc
      simp only [fileD, Option.some.injEq, Prod.mk.injEq, DataW.agg.injEq, List.cons.injEq, DataW.lit.injEq, Lit.bool.injEq, Lit.string.injEq, and_true] at h
      obtain ⟨⟨h1, rfl, h2⟩, _⟩ := h
      rw [← data_inj h2, ← data_inj h1]
      congr 1
      exact Array.ext' hc
    · cases h
  · cases h
theorem file_zero (w : World) : (zeroValue 45).run Tryz.prog w = .ok (.agg #[.string ⟨#[]⟩, .bool false, .string ⟨#[]⟩]) w := by kernel_rfl
def xF : ByteArray := ⟨#[47, 120]⟩
/-- the map of the one file -/
def OneM (w : World) (B : Nat) : Prop := w.ownsMap Tryz.prog 9 fileElem B 1 ((DataW.map []).put (.string xF.data.toList) (fileD xF false emB))
theorem OneM.keep {w w' : World} {B : Nat} (h : OneM w B) (hb : Below w.heap.size w w') : OneM w' B :=
  World.ownsMap.kept (row := none) h ⟨hb.os, hb.tape, hb.output, hb.size, fun k hk _ => hb.block k hk⟩ (by simp)
theorem OneM.look {W : World} {B : Nat} (h : OneM W B) : (Instr.lookup 81 (.map (some B)) (.string manF) false).run Tryz.prog W = .ok (.agg #[.string ⟨#[]⟩, .bool false, .string ⟨#[]⟩]) W := by
  have hkey := Go.WideMaps.keyOf_string_mk (P := Tryz.prog) (s := manF) Tryz.underlying9 (by decide)
  obtain ⟨v, ps, r1, r2⟩ := World.ownsMap.lookup h key_law Tryz.underlying81 (file_zero W) (fileElem_mk ⟨#[]⟩ false ⟨#[]⟩) hkey
  rw [atKey_put_other (by intro h; revert h; simp [manF, xF])] at r2
  rw [fileElem_inv r2] at r1
  exact r1

/-! ### manifest.Parse of no text -/
theorem heap_set4e {W : World} {b : Nat} {x0 x1 x2 x3 : Value} {t : TypeId} (h : W.heap[b]? = some (.cells #[x0, x1, x2, x3] t (0, 0))) (a0 a1 a2 a3 : Value) :
    ((((W.setCell ⟨b, 0, none⟩ a0).setCell ⟨b, 1, none⟩ a1).setCell ⟨b, 2, none⟩ a2).setCell ⟨b, 3, none⟩ a3).heap[b]? = some (.cells #[a0, a1, a2, a3] t (0, 0)) := by
  have h0 := heap_set1 (o := 0) h a0
  rw [show (#[x0, x1, x2, x3] : Array Value).setIfInBounds 0 a0 = #[a0, x1, x2, x3] from rfl] at h0
  have h1 := heap_set1 (o := 1) h0 a1
  rw [show (#[a0, x1, x2, x3] : Array Value).setIfInBounds 1 a1 = #[a0, a1, x2, x3] from rfl] at h1
  have h2 := heap_set1 (o := 2) h1 a2
  rw [show (#[a0, a1, x2, x3] : Array Value).setIfInBounds 2 a2 = #[a0, a1, a2, x3] from rfl] at h2
  have h3 := heap_set1 (o := 3) h2 a3
  rw [show (#[a0, a1, a2, x3] : Array Value).setIfInBounds 3 a3 = #[a0, a1, a2, a3] from rfl] at h3
  exact h3
theorem below_set4e {W0 W : World} {B b : Nat} (h : Below B W0 W) (hb : B ≤ b) (a0 a1 a2 a3 : Value) :
    Below B W0 ((((W.setCell ⟨b, 0, none⟩ a0).setCell ⟨b, 1, none⟩ a1).setCell ⟨b, 2, none⟩ a2).setCell ⟨b, 3, none⟩ a3) :=
  (((h.setCell hb a0).setCell hb a1).setCell hb a2).setCell hb a3
theorem scan_none : scanQ 4096 ⟨#[]⟩ = ([], 0) := by
  unfold scanQ linesB
  rw [if_neg (by decide)]
  rfl
set_option maxHeartbeats 1600000 in
set_option maxRecDepth 100000 in
theorem maniParse_none (w : World) : Calls Tryz.prog 38 #[.string ⟨#[]⟩] w fun e w' => e = .returned (.tuple #[.agg #[.slice none 0 0, .slice none 0 0, .slice none 0 0, .slice none 0 0], .int .i64 22]) ∧ Below w.heap.size w w' := by
  go_enter Tryz.func38, Tryz.ntmps38
  go_wp2_with fail
  obtain ⟨w0, hw0⟩ : ∃ w0, w0 = w.alloc (.cells #[.slice none 0 0, .slice none 0 0, .slice none 0 0, .slice none 0 0] 24) := ⟨_, rfl⟩
  have hr0 : w0.heap[w.heap.size]? = some (.cells #[.slice none 0 0, .slice none 0 0, .slice none 0 0, .slice none 0 0] 24 (0, 0)) := by rw [hw0]; exact heap_alloc_new w _
  have HB0 : Hid (Below w.heap.size w w0) := by unfold Hid; rw [hw0]; exact bal (Below.refl _ _) _
  have hz0 : w.heap.size < w0.heap.size := (Array.getElem?_eq_some_iff.1 hr0).1
  have Hr0 := Lib.hid hr0
  rw [← hw0]
  clear hw0 hr0
  refine (scanLines_any ⟨#[]⟩ 4096 w0 (by decide) (by decide)).mono ?_
  rintro e w1 ⟨v, ⟨k, rfl⟩, hs, hb⟩
  rw [scan_none] at hs ⊢
  obtain ⟨A, c, rfl, _, _⟩ := hs.val
  have Hr1 : Hid (w1.heap[w.heap.size]? = some (.cells #[.slice none 0 0, .slice none 0 0, .slice none 0 0, .slice none 0 0] 24 (0, 0))) := (hb.block _ hz0).trans Hr0.out
  have HB1 := Lib.hid (bot HB0.out hb)
  obtain ⟨⟨a0, a1, a2, a3⟩, f0, f1, f2, f3⟩ := row4 Hr1.out
  clear hs hb HB0 Hr0
  go_wp2_with fail
  refine ret_cells rfl rfl rfl rfl (heap_set4e Hr1.out _ _ _ _) Tryz.underlying24 rfl (by kernel_rfl) ⟨rfl, below_set4e HB1.out (Nat.le_refl _) _ _ _ _⟩

/-! ### image.Read -/
set_option maxHeartbeats 3200000 in
set_option maxRecDepth 100000 in
theorem imgRead_none (w : World) (hm : MaxL w) : Calls Tryz.prog 12 #[.slice none 0 0] w fun e w' => (∃ A5 A6, e = .returned (.tuple #[.agg #[.slice none 0 0, .slice none 0 0, .slice none 0 0, .slice none 0 0, .slice (some A5) 1 1, .slice (some A6) 1 1, .bool false], .int .i64 0])) ∧ Below w.heap.size w w' := by
  have Hm := Lib.hid hm
  clear hm
  go_enter Tryz.func12, Tryz.ntmps12
  go_wp2_with fail
  obtain ⟨w0, hw0⟩ : ∃ w0, w0 = w.alloc (.cells #[.slice none 0 0, .slice none 0 0, .slice none 0 0, .slice none 0 0, .slice none 0 0, .slice none 0 0, .bool false] 32) := ⟨_, rfl⟩
  have hr0 : w0.heap[w.heap.size]? = some (.cells #[.slice none 0 0, .slice none 0 0, .slice none 0 0, .slice none 0 0, .slice none 0 0, .slice none 0 0, .bool false] 32 (0, 0)) := by rw [hw0]; exact heap_alloc_new w _
  have HB0 : Hid (Below w.heap.size w w0) := by unfold Hid; rw [hw0]; exact bal (Below.refl _ _) _
  have hz0 : w.heap.size < w0.heap.size := (Array.getElem?_eq_some_iff.1 hr0).1
  have Hr0 := Lib.hid hr0
  rw [← hw0]
  clear hw0 hr0
  refine (diskLoad_any none 0 0 [] w0 (fun _ => True) ((Hm.out).below HB0.out) (SlV.nil_ _ _ _) (by decide) (by simp)).mono ?_
  rintro e w1 ⟨hl, hb⟩
  rcases hl with ⟨hf, _⟩ | ⟨_, d, B, rv, zv, rfl, _, _⟩
  · cases hf
  have Hr1 := Lib.hid ((hb.block _ hz0).trans Hr0.out)
  have HB1 := Lib.hid (bot HB0.out hb)
  have hz1 : w.heap.size < w1.heap.size := Nat.lt_of_lt_of_le hz0 hb.size
  clear hb HB0 Hr0
  go_wp2_with fail
  refine (imgEmpty_any w1).mono ?_
  rintro e w2 ⟨⟨A5, A6, rfl, _⟩, hb⟩
  have Hr2 := Lib.hid ((hb.block _ hz1).trans Hr1.out)
  have HB2 := Lib.hid (bot HB1.out hb)
  obtain ⟨⟨a0, a1, a2, a3, a4, a5, a6⟩, f0, f1, f2, f3, f4, f5, f6⟩ := row7 Hr2.out
  clear hb HB1 Hr1
  go_wp2_with fail
  refine ret_cells rfl rfl rfl rfl (heap_set7 Hr2.out _ _ _ _ _ _ _) Tryz.underlying32 rfl (by kernel_rfl) ⟨⟨_, _, rfl⟩, below_set7 HB2.out (Nat.le_refl _) _ _ _ _ _ _ _⟩

set_option maxHeartbeats 6400000 in
set_option maxRecDepth 100000 in
theorem imgRead_x (A : Option Addr) (c : Nat) (S : Nat → Prop) (w : World) (hm : MaxL w) (hl : SlV rFile w S [⟨xF, false, emB⟩] (.slice A 1 c)) : Calls Tryz.prog 12 #[.slice A 1 c] w fun e w' => e = .returned (.tuple #[.agg #[.slice none 0 0, .slice none 0 0, .slice none 0 0, .slice none 0 0, .slice none 0 0, .slice none 0 0, .bool false], .int .i64 43]) ∧ Below w.heap.size w w' := by
  have Hm := Lib.hid hm
  have HL := Lib.hid hl
  obtain ⟨b, o, cs, rfl, _, hbl, ⟨rfl, _⟩, hcell⟩ := hl.elem (i := 0) (x := ⟨xF, false, emB⟩) rfl
  have c0 := hcell 0 _ rfl
  have c1 := hcell 1 _ rfl
  have c2 := hcell 2 _ rfl
  simp only [rFile, Nat.add_zero, Nat.zero_mul] at c0 c1 c2
  clear hm hl hcell
  go_enter Tryz.func12, Tryz.ntmps12
  go_wp2_with fail
  obtain ⟨w0, hw0⟩ : ∃ w0, w0 = w.alloc (.cells #[.slice none 0 0, .slice none 0 0, .slice none 0 0, .slice none 0 0, .slice none 0 0, .slice none 0 0, .bool false] 32) := ⟨_, rfl⟩
  have hr0 : w0.heap[w.heap.size]? = some (.cells #[.slice none 0 0, .slice none 0 0, .slice none 0 0, .slice none 0 0, .slice none 0 0, .slice none 0 0, .bool false] 32 (0, 0)) := by rw [hw0]; exact heap_alloc_new w _
  have HB0 : Hid (Below w.heap.size w w0) := by unfold Hid; rw [hw0]; exact bal (Below.refl _ _) _
  have hz0 : w.heap.size < w0.heap.size := (Array.getElem?_eq_some_iff.1 hr0).1
  have Hr0 := Lib.hid hr0
  rw [← hw0]
  clear hw0 hr0
  refine (diskLoad_any (some ⟨b, o, none⟩) 1 c [⟨xF, false, emB⟩] w0 S ((Hm.out).below HB0.out) (HL.out.belowSize HB0.out) (by decide) (by intro f hf; rw [List.mem_singleton.1 hf]; decide)).mono ?_
  rintro e w1 ⟨hl, hb⟩
  have Hr1 := Lib.hid ((hb.block _ hz0).trans Hr0.out)
  have HB1 := Lib.hid (bot HB0.out hb)
  have hz1 : w.heap.size < w1.heap.size := Nat.lt_of_lt_of_le hz0 hb.size
  clear hb HB0 Hr0
  rcases hl with ⟨_, rfl⟩ | ⟨_, d, B, rv, zv, rfl, _, _⟩
  · obtain ⟨⟨a0, a1, a2, a3, a4, a5, a6⟩, f0, f1, f2, f3, f4, f5, f6⟩ := row7 Hr1.out
    go_wp2_with fail
    refine ret_cells rfl rfl rfl rfl (heap_set7 Hr1.out _ _ _ _ _ _ _) Tryz.underlying32 rfl (by kernel_rfl) ⟨rfl, below_set7 HB1.out (Nat.le_refl _) _ _ _ _ _ _ _⟩
  have hmm := @run_makeMap Tryz.prog
  go_wp2_with fail
  clear hmm
  obtain ⟨wM, hwM⟩ : ∃ wM, wM = w1.alloc (.map #[] 0) := ⟨_, rfl⟩
  obtain ⟨BM, hBM⟩ : ∃ BM, BM = w1.heap.size := ⟨_, rfl⟩
  have HO0 : Hid (wM.ownsMap Tryz.prog 9 fileElem BM 0 (DataW.map [])) := by unfold Hid; rw [hwM, hBM]; exact World.ownsMap_made _ _ _ _
  have HBM : Hid (Below w1.heap.size w1 wM) := by unfold Hid; rw [hwM]; exact bal (Below.refl _ _) _
  have HRM := Lib.hid ((HBM.out.block _ hz1).trans Hr1.out)
  have hzM : w.heap.size < BM ∧ BM < wM.heap.size := by rw [hBM, hwM]; exact ⟨hz1, by simp [size_allocE]⟩
  rw [← hwM, ← hBM]
  clear hwM hBM
  go_loopw [37] (fun i wr => (i = .int .i64 0 ∧ wr = wM) ∨ (i = .int .i64 1 ∧ Hid (OneM wr BM) ∧ Hid (wr.heap[w.heap.size]? = some (.cells #[.slice none 0 0, .slice none 0 0, .slice none 0 0, .slice none 0 0, .slice none 0 0, .slice none 0 0, .bool false] 32 (0, 0))) ∧ Hid (Below w.heap.size w wr) ∧ w.heap.size < wr.heap.size)) (fun i _ => 1 - (intOf i).toNat)
  case atStart => exact .inl ⟨rfl, rfl⟩
  case round =>
    rcases hrel with ⟨rfl, rfl⟩ | ⟨rfl, HO, HR, HB, hzr⟩
    · have d0 := below_cell (bot HB1.out HBM.out) c0 hbl
      have d1 := below_cell (bot HB1.out HBM.out) c1 hbl
      have d2 := below_cell (bot HB1.out HBM.out) c2 hbl
      clear c0 c1 c2
      go_upto_region 10 with (fail)
      obtain ⟨wf, hwf⟩ : ∃ wf, wf = wr.alloc (.cells #[.string xF, .bool false, .string emB] 45) := ⟨_, rfl⟩
      have hO1 : wf.ownsMap Tryz.prog 9 fileElem BM 0 (DataW.map []) := by rw [hwf]; exact World.ownsMap.kept (row := none) HO0.out (World.grownBy_alloc _ _ _) (by simp)
      have hrf : wf.heap[wr.heap.size]? = some (.cells #[.string xF, .bool false, .string emB] 45 (0, 0)) := by rw [hwf]; exact heap_new _ _
      have e0 := cell_of_row _ _ 0 _ _ _ hrf
      have e1 := cell_of_row _ _ 1 _ _ _ hrf
      have e2 := cell_of_row _ _ 2 _ _ _ hrf
      have hbf : Below wr.heap.size wr wf := by rw [hwf]; exact bal (Below.refl _ _) _
      have HBf := Lib.hid (bot (bot HB1.out HBM.out) hbf)
      have HRf := Lib.hid ((hbf.block _ (by omega)).trans HRM.out)
      have hzf : w.heap.size < wf.heap.size := Nat.lt_of_lt_of_le (by omega) hbf.size
      have hkey := Go.WideMaps.keyOf_string_mk (P := Tryz.prog) (s := xF) Tryz.underlying9 (by decide)
      rw [← hwf]
      clear hwf hrf hbf
      go_wp2_with (first | (at_mapUpdate; refine wpList_mapUpdate_own _ rfl _ _ _ 81 rfl 9 45 key_law Tryz.underlying81 _ BM 0 _ rfl hO1 (by decide) _ _ _ rfl rfl hkey _ [] (fileElem_mk xF false emB) ?_) | go_in)
      intro w2 hown2 hgrow2
      have HO2 : Hid (OneM w2 BM) := hown2
      have HR2 := Lib.hid ((hgrow2.block w.heap.size hzf (fun e => by have := Option.some.inj e; omega)).trans HRf.out)
      have HB2 : Hid (Below w.heap.size w w2) := HBf.out.grown hgrow2 (by omega) (fun g hg => by have := Option.some.inj hg; omega)
      have hz2 : w.heap.size < w2.heap.size := Nat.lt_of_lt_of_le hzf hgrow2.size
      clear hown2 hgrow2 hkey hO1 e0 e1 e2 d0 d1 d2
      go_wp2_with fail
      go_roundw
      case rel => exact .inr ⟨by go_num, HO2, HR2, HB2, hz2⟩
      case measure => simp [intOf]
    · have hlook : (Instr.lookup 81 (.map (some BM)) (.string ⟨#[47, 109, 97, 110, 105, 102, 101, 115, 116]⟩) false).run Tryz.prog wr = .ok (.agg #[.string ⟨#[]⟩, .bool false, .string ⟨#[]⟩]) wr := HO.out.look
      have hfld : ∀ W : World, (Instr.field 45 (.agg #[.string ⟨#[]⟩, .bool false, .string ⟨#[]⟩]) 2).run Tryz.prog W = .ok (.string ⟨#[]⟩) W := fun W => by kernel_rfl
      clear c0 c1 c2
      go_wp2_with fail
      refine (maniParse_none wr).mono ?_
      rintro e w3 ⟨rfl, hb3⟩
      have HR3 := Lib.hid ((hb3.block _ hzr).trans HR.out)
      have HB3 := Lib.hid (bot HB.out hb3)
      have hz3 : w.heap.size < w3.heap.size := Nat.lt_of_lt_of_le hzr hb3.size
      clear hb3 hlook HO HR HB
      obtain ⟨w4, hw4⟩ : ∃ w4, w4 = w3.alloc (.cells #[.slice none 0 0, .slice none 0 0, .slice none 0 0, .slice none 0 0] 24) := ⟨_, rfl⟩
      have hb4 : Below w3.heap.size w3 w4 := by rw [hw4]; exact bal (Below.refl _ _) _
      have HR4 := Lib.hid ((hb4.block _ hz3).trans HR3.out)
      have HB4 := Lib.hid (bot HB3.out hb4)
      obtain ⟨⟨a0, a1, a2, a3, a4, a5, a6⟩, f0, f1, f2, f3, f4, f5, f6⟩ := row7 HR4.out
      go_upto_region 13 with (fail)
      rw [← hw4]
      clear hw4 hb4 HR3 HB3
      go_wp2_with fail
      refine ret_cells rfl rfl rfl rfl (heap_set7 HR4.out _ _ _ _ _ _ _) Tryz.underlying32 rfl (by kernel_rfl) ⟨rfl, below_set7 HB4.out (Nat.le_refl _) _ _ _ _ _ _ _⟩
end Go.Proofs.YthbnmehbhpakaaaGreatDoor
set_option autoImplicit false
set_option relaxedAutoImplicit false
set_option linter.unusedVariables false
set_option linter.unusedSimpArgs false
namespace Go.Proofs.YthbnmehbhpakaaaGreatDoor
open Go.Rows Go.RowKit Go.Shelf Go.Sort

set_option maxHeartbeats 6400000 in
set_option maxRecDepth 100000 in
theorem lives15_any (w : World) (ht : Tab w) (hm : MaxL w) : Calls Tryz.prog 11 #[] w fun e w' => e = .returned (.bool true) ∧ Below w.heap.size w w' := by
  have Ht := Lib.hid ht
  have Hm := Lib.hid hm
  clear ht hm
  go_enter Tryz.func11, Tryz.ntmps11
  go_wp2_with fail
  refine (imgEmpty_any w).mono ?_
  rintro e w1 ⟨⟨A5, A6, rfl, hv⟩, hb⟩
  have HF := Lib.hid (files_any proj0 _ w1 _ (tab_below Ht.out hb) projZ_0 hv)
  have HB1 := Lib.hid hb
  clear hb hv
  rw [imgF_0] at HF
  go_wp2_with fail
  refine HF.out.mono ?_
  rintro e w2 ⟨⟨u, rfl, hu⟩, hb⟩
  obtain ⟨A, c, rfl, _, _⟩ := hu.val
  have HB2 := Lib.hid (bot HB1.out hb)
  clear hb hu HB1 HF
  go_wp2_with fail
  refine (imgRead_none w2 ((Hm.out).below HB2.out)).mono ?_
  rintro e w3 ⟨⟨B5, B6, rfl⟩, hb⟩
  have HB3 := Lib.hid (bot HB2.out hb)
  clear hb HB2
  go_upto_region 3 with (fail)
  obtain ⟨w4, hw4⟩ : ∃ w4, w4 = w3.alloc (.cells #[.slice none 0 0, .slice none 0 0, .slice none 0 0, .slice none 0 0, .slice (some B5) 1 1, .slice (some B6) 1 1, .bool false] 32) := ⟨_, rfl⟩
  have hr4 : w4.heap[w3.heap.size]? = some (.cells #[.slice none 0 0, .slice none 0 0, .slice none 0 0, .slice none 0 0, .slice (some B5) 1 1, .slice (some B6) 1 1, .bool false] 32 (0, 0)) := by rw [hw4]; exact heap_alloc_new w3 _
  have HB4 : Hid (Below w.heap.size w w4) := by unfold Hid; rw [hw4]; exact bal HB3.out _
  have Hr4 := Lib.hid hr4
  rw [← hw4]
  clear hw4 hr4 HB3
  obtain ⟨q, hq⟩ : ∃ q, q = w3.heap.size := ⟨_, rfl⟩
  rw [← hq] at Hr4 ⊢
  clear hq
  go_wp2_with fail
  obtain ⟨w5, hw5⟩ : ∃ w5, w5 = w4.alloc (.cells #[.string xF, .bool false, .string emB] 45) := ⟨_, rfl⟩
  have hb5 : Below w4.heap.size w4 w5 := by rw [hw5]; exact bal (Below.refl _ _) _
  have hs5 : SlV rFile w5 (fun b => b = w4.heap.size) [⟨xF, false, emB⟩] (.slice (some ⟨w4.heap.size, 0, none⟩) 1 1) := by
    rw [hw5]
    exact SlV.of_block (S := fun b => b = w4.heap.size) (l := [(⟨xF, false, emB⟩ : File)]) (heap_new _ _) (Elems.one_ (r := rFile) (x := ⟨xF, false, emB⟩) (cs := [.string xF, .bool false, .string emB]) ⟨rfl, by decide, by decide⟩) rfl rfl (by decide) (by decide)
  have HB5 := Lib.hid (bot HB4.out hb5)
  have HR := Lib.hid (imgRead_x _ 1 _ w5 ((Hm.out).below HB5.out) hs5)
  rw [show (⟨#[47, 120]⟩ : ByteArray) = xF from rfl, show (⟨#[]⟩ : ByteArray) = emB from rfl, ← hw5]
  have hz4 : q < w4.heap.size := (Array.getElem?_eq_some_iff.1 Hr4.out).1
  have Hr5 := Lib.hid ((hb5.block _ hz4).trans Hr4.out)
  have hz5 : q < w5.heap.size := Nat.lt_of_lt_of_le hz4 hb5.size
  clear hw5 hb5 hs5 HB4 Hr4
  refine HR.out.mono ?_
  rintro e w6 ⟨rfl, hb⟩
  have HB6 := Lib.hid (bot HB5.out hb)
  have Hr6 := Lib.hid ((hb.block _ hz5).trans Hr5.out)
  have hz6 : q < w6.heap.size := Nat.lt_of_lt_of_le hz5 hb.size
  clear hb HB5 Hr5 HR
  go_upto_region 4 with (fail)
  obtain ⟨w7, hw7⟩ : ∃ w7, w7 = w6.alloc (.cells #[.slice none 0 0, .slice none 0 0, .slice none 0 0, .slice none 0 0, .slice none 0 0, .slice none 0 0, .bool false] 32) := ⟨_, rfl⟩
  have hb7 : Below w6.heap.size w6 w7 := by rw [hw7]; exact bal (Below.refl _ _) _
  have HB7 := Lib.hid (bot HB6.out hb7)
  have Hr7 := Lib.hid ((hb7.block _ hz6).trans Hr6.out)
  rw [← hw7]
  clear hw7 hb7 HB6 Hr6
  have a4 := cell_of_row _ _ 4 _ _ _ Hr7.out
  have a5 := cell_of_row _ _ 5 _ _ _ Hr7.out
  go_wp2_with fail
  go_ret
  exact ⟨rfl, HB7.out⟩
end Go.Proofs.YthbnmehbhpakaaaGreatDoor
set_option autoImplicit false
set_option relaxedAutoImplicit false
set_option linter.unusedVariables false
set_option linter.unusedSimpArgs false
namespace Go.Proofs.YthbnmehbhpakaaaGreatDoor
open Go

/-! ### the lines of a text -/
/-- a text that is lines, whatever stands behind -/
def Ln (a : ByteArray) (ls : List (List ByteArray)) : Prop := ∀ t, linesF (a.data.toList ++ t) = (linesF t).map ((ls.map fun w => w.map (·.data.toList)) ++ ·)
theorem Ln.nil : Ln ⟨#[]⟩ [] := fun t => by
  show linesF t = _
  cases linesF t <;> rfl
theorem Ln.append {a b : ByteArray} {x y : List (List ByteArray)} (ha : Ln a x) (hb : Ln b y) : Ln (a ++ b) (x ++ y) := fun t => by
  rw [ByteArray.data_append, Array.toList_append, List.append_assoc, ha, hb, Option.map_map, List.map_append]
  congr 1
  funext z
  simp
theorem Ln.done {a : ByteArray} {ls : List (List ByteArray)} (h : Ln a ls) : linesB a = some ls := by
  have h1 := h []
  rw [List.append_nil, show linesF [] = some [] from rfl, Option.map_some, List.append_nil] at h1
  unfold linesB
  rw [h1, Option.map_some, List.map_map]
  have e : (fun w : List (List UInt8) => w.map mkB) ∘ (fun w : List ByteArray => w.map (·.data.toList)) = id := by
    funext w
    show (w.map (·.data.toList)).map mkB = w
    rw [List.map_map]
    have : mkB ∘ (fun x : ByteArray => x.data.toList) = id := by funext x; exact mkB_self x
    rw [this, List.map_id]
  rw [e, List.map_id]
theorem Ln.one {a w : ByteArray} (hw : GoodB w) (h : a.data.toList = w.data.toList ++ [10]) : Ln a [[w]] := fun t => by
  obtain ⟨n1, n2⟩ := noblank hw.2
  rw [h, List.append_assoc, List.singleton_append, linesF_line n2, lineF_one (wordOk_of hw.1 hw.2) n1]
  rfl
/-- a node that may be written as the i-th -/
def NodeW (i : Nat) (x : Node) : Prop := (i ≠ 0 → nameB x.name = true ∧ verOk x.ver = true) ∧ (i = 0 → x.name = ⟨#[]⟩ ∧ x.ver = ⟨0, 0, 0⟩ ∧ x.ctx = []) ∧ (∀ q ∈ x.ctx, nameB q.name = true ∧ verOk q.ver = true) ∧ (∀ e ∈ x.edges, nameB e.label = true ∧ 1 ≤ e.to ∧ e.to ≤ 127)
theorem nodeW_of {many i : Nat} {x : Node} (hm : many ≤ 128) (h1 : headOk i x = true) (h2 : nodeOk many x = true) : NodeW i x := by
  unfold headOk at h1
  unfold nodeOk at h2
  simp only [Bool.and_eq_true] at h2
  obtain ⟨⟨⟨hp, he⟩, hv⟩, ht⟩ := h2
  unfold risesB at hp he
  rw [Bool.and_eq_true] at hp he
  refine ⟨fun hi => ?_, fun hi => ?_, fun q hq => ⟨risesGo_names hp.1 _ (List.mem_map.2 ⟨q, hq, rfl⟩), List.all_eq_true.1 hv q hq⟩, fun e he' => ⟨risesGo_names he.1 _ (List.mem_map.2 ⟨e, he', rfl⟩), ?_⟩⟩
  · rw [if_neg hi, Bool.and_eq_true] at h1
    exact h1
  · rw [if_pos hi] at h1
    simp only [Bool.and_eq_true, decide_eq_true_eq, beq_iff_eq, zeroV] at h1
    obtain ⟨a1, ⟨a2, a3, a4⟩, a5⟩ := h1
    refine ⟨?_, ?_, List.eq_nil_of_length_eq_zero a5⟩
    · rw [Go.ByteArray.toList_eq] at a1
      exact data_inj a1
    · cases hx : x.ver
      rw [hx] at a2 a3 a4
      simp only at a2 a3 a4
      rw [a2, a3, a4]
  · have := List.all_eq_true.1 ht e he'
    simp only [Bool.and_eq_true, decide_eq_true_eq] at this
    omega
theorem lockGo_at : ∀ {l : List Node} {many i : Nat}, lockGo many i l = true → ∀ j x, l[j]? = some x → headOk (i + j) x = true ∧ nodeOk many x = true
  | [], _, _, _, j, x, hx => by cases hx
  | y :: l, many, i, h, 0, x, hx => by
    rw [lockGo, Bool.and_eq_true, Bool.and_eq_true] at h
    cases hx
    exact h.1
  | y :: l, many, i, h, j + 1, x, hx => by
    rw [lockGo, Bool.and_eq_true] at h
    have := lockGo_at h.2 j x hx
    rwa [show i + 1 + j = i + (j + 1) from by omega] at this
theorem lockB_at {l : List Node} (h : lockB l = true) : ∀ j x, l[j]? = some x → NodeW j x := fun j x hx => by
  unfold lockB at h
  simp only [Bool.and_eq_true, decide_eq_true_eq] at h
  obtain ⟨h1, h2⟩ := lockGo_at h.2 j x hx
  rw [Nat.zero_add] at h1
  exact nodeW_of h.1.2 h1 h2
/-! ### what the lines tell -/
end Go.Proofs.YthbnmehbhpakaaaGreatDoor
set_option autoImplicit false
set_option relaxedAutoImplicit false
set_option linter.unusedVariables false
set_option linter.unusedSimpArgs false
namespace Go.Proofs.YthbnmehbhpakaaaGreatDoor
open Go

/-! ### a tree's map asks paths and packages alone -/
def bare (d : Dir) : Dir := { d with node := 0 }
/-! ### what placed says -/
/-! ### the root, and the empty project -/
theorem mayI_lock {s : Proj} (h : mayI s = true) : lockB s.nodes = true := by
  unfold mayI at h
  simp only [Bool.and_eq_true] at h
  exact h.2.1
/-! ### from files to what they are of -/
end Go.Proofs.YthbnmehbhpakaaaGreatDoor
set_option autoImplicit false
set_option relaxedAutoImplicit false
set_option linter.unusedVariables false
set_option linter.unusedSimpArgs false
namespace Go.Proofs.YthbnmehbhpakaaaGreatDoor
open Go.Rows Go.RowKit Go.Shelf Go.Sort

theorem imgF_may {s : Proj} (h : (imgF s).2 = 0) : mayI s = true := by
  cases hm : mayI s with
  | true => rfl
  | false => unfold imgF at h; rw [if_neg (by rw [hm]; decide)] at h; cases h
end Go.Proofs.YthbnmehbhpakaaaGreatDoor
