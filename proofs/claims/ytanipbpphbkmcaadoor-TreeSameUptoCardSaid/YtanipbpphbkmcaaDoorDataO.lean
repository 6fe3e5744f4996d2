/-
  The program's values, opened: with the reading's bulk. (Printed by gen_data.py.)
-/
import Derived.Test.YtanipbpphbkmcaaDoorOpenB
import Derived.Test.YtanipbpphbkmcaaDoorData
import Derived.KernelRfl
namespace Go.Proofs.YtanipbpphbkmcaaDoor
open Go.ChangeShapes Go.WideShapes Go.ChangeAt Go.RowKit
set_option linter.unusedVariables false
set_option linter.unusedSimpArgs false

def bkVer (x : Ver) : Nat := 1 + 1 + 1 + 1
set_option maxRecDepth 100000 in
theorem opensB_Ver : OpensB Tryd.prog 37 rVer bkVer := by
  intro H enc w base fuel cs x h
  obtain ⟨xs, n, rfl, rfl, hlen, hxl, hf⟩ := DataW.trod_struct Tryd.underlying37 h
  rw [show Tryd.prog.cellsOf 37 = 3 from by kernel_rfl] at hlen
  match cs, hlen with
  | [c0, c1, c2], _ =>
    have k0 : Tryd.prog.cellsOf 3 = 1 := by kernel_rfl
    have f0 := hf 0 _ rfl
    have f1 := hf 1 _ rfl
    have f2 := hf 2 _ rfl
    match xs, hxl with
    | [x0, x1, x2], _ =>
      simp [k0] at f0 f1 f2
      obtain ⟨y0, ⟨h0, g0⟩, b0⟩ := opensB_int Tryd.underlying3 H enc w base n [c0] x0 f0
      simp only [List.cons.injEq, and_true] at h0
      subst h0
      obtain ⟨y1, ⟨h1, g1⟩, b1⟩ := opensB_int Tryd.underlying3 H enc w base n [c1] x1 f1
      simp only [List.cons.injEq, and_true] at h1
      subst h1
      obtain ⟨y2, ⟨h2, g2⟩, b2⟩ := opensB_int Tryd.underlying3 H enc w base n [c2] x2 f2
      simp only [List.cons.injEq, and_true] at h2
      subst h2
      refine ⟨⟨y0, y1, y2⟩, ⟨rfl, g0, g1, g2⟩, ?_⟩
      simp only [bkVer, Rows.uptoBulk, Rows.uptoBulkAll, List.map_cons, List.map_nil] at *
      omega

def bkSpn (x : Spn) : Nat := 1 + bkVer x.lo + bkVer x.hi
set_option maxRecDepth 100000 in
theorem opensB_Spn : OpensB Tryd.prog 101 rSpn bkSpn := by
  intro H enc w base fuel cs x h
  obtain ⟨xs, n, rfl, rfl, hlen, hxl, hf⟩ := DataW.trod_struct Tryd.underlying101 h
  rw [show Tryd.prog.cellsOf 101 = 6 from by kernel_rfl] at hlen
  match cs, hlen with
  | [c0, c1, c2, c3, c4, c5], _ =>
    have k0 : Tryd.prog.cellsOf 37 = 3 := by kernel_rfl
    have f0 := hf 0 _ rfl
    have f1 := hf 1 _ rfl
    match xs, hxl with
    | [x0, x1], _ =>
      simp [k0] at f0 f1
      obtain ⟨y0, ⟨h0, g0_0, g0_1, g0_2⟩, b0⟩ := opensB_Ver H enc w base n [c0, c1, c2] x0 f0
      simp only [List.cons.injEq, and_true] at h0
      obtain ⟨rfl, rfl, rfl⟩ := h0
      obtain ⟨y1, ⟨h1, g1_0, g1_1, g1_2⟩, b1⟩ := opensB_Ver H enc w base n [c3, c4, c5] x1 f1
      simp only [List.cons.injEq, and_true] at h1
      obtain ⟨rfl, rfl, rfl⟩ := h1
      refine ⟨⟨y0, y1⟩, ⟨rfl, g0_0, g0_1, g0_2, g1_0, g1_1, g1_2⟩, ?_⟩
      simp only [bkSpn, Rows.uptoBulk, Rows.uptoBulkAll, List.map_cons, List.map_nil] at *
      omega

def bkDep (x : Dep) : Nat := 1 + (x.name.size + 1) + bkL bkSpn x.range
set_option maxRecDepth 100000 in
theorem opensB_Dep : OpensB Tryd.prog 97 rDep bkDep := by
  intro H enc w base fuel cs x h
  obtain ⟨xs, n, rfl, rfl, hlen, hxl, hf⟩ := DataW.trod_struct Tryd.underlying97 h
  rw [show Tryd.prog.cellsOf 97 = 2 from by kernel_rfl] at hlen
  match cs, hlen with
  | [c0, c1], _ =>
    have k0 : Tryd.prog.cellsOf 95 = 1 := by kernel_rfl
    have k1 : Tryd.prog.cellsOf 9 = 1 := by kernel_rfl
    have f0 := hf 0 _ rfl
    have f1 := hf 1 _ rfl
    match xs, hxl with
    | [x0, x1], _ =>
      simp [k0, k1] at f0 f1
      obtain ⟨y0, ⟨h0, g0⟩, b0⟩ := opensB_str Tryd.underlying9 H enc w base n [c0] x0 f0
      simp only [List.cons.injEq, and_true] at h0
      subst h0
      obtain ⟨y1, g1, b1⟩ := opensB_slice (e := 101) Tryd.underlying95 (r := rSpn) (by kernel_rfl) (by decide) opensB_Spn H enc w base n [c1] x1 f1
      refine ⟨⟨y0, y1⟩, ⟨_, rfl, g0, g1⟩, ?_⟩
      simp only [bkDep, Rows.uptoBulk, Rows.uptoBulkAll, List.map_cons, List.map_nil] at *
      omega

def bkPack (x : Pack) : Nat := 1 + (x.name.size + 1) + bkVer x.ver + bkL bkDep x.deps + bkL bkDep x.peers + bkL bkDep x.opts
set_option maxRecDepth 100000 in
theorem opensB_Pack : OpensB Tryd.prog 46 rPack bkPack := by
  intro H enc w base fuel cs x h
  obtain ⟨xs, n, rfl, rfl, hlen, hxl, hf⟩ := DataW.trod_struct Tryd.underlying46 h
  rw [show Tryd.prog.cellsOf 46 = 7 from by kernel_rfl] at hlen
  match cs, hlen with
  | [c0, c1, c2, c3, c4, c5, c6], _ =>
    have k0 : Tryd.prog.cellsOf 44 = 1 := by kernel_rfl
    have k1 : Tryd.prog.cellsOf 37 = 3 := by kernel_rfl
    have k2 : Tryd.prog.cellsOf 9 = 1 := by kernel_rfl
    have f0 := hf 0 _ rfl
    have f1 := hf 1 _ rfl
    have f2 := hf 2 _ rfl
    have f3 := hf 3 _ rfl
    have f4 := hf 4 _ rfl
    match xs, hxl with
    | [x0, x1, x2, x3, x4], _ =>
      simp [k0, k1, k2] at f0 f1 f2 f3 f4
      obtain ⟨y0, ⟨h0, g0⟩, b0⟩ := opensB_str Tryd.underlying9 H enc w base n [c0] x0 f0
      simp only [List.cons.injEq, and_true] at h0
      subst h0
      obtain ⟨y1, ⟨h1, g1_0, g1_1, g1_2⟩, b1⟩ := opensB_Ver H enc w base n [c1, c2, c3] x1 f1
      simp only [List.cons.injEq, and_true] at h1
      obtain ⟨rfl, rfl, rfl⟩ := h1
      obtain ⟨y2, g2, b2⟩ := opensB_slice (e := 97) Tryd.underlying44 (r := rDep) (by kernel_rfl) (by decide) opensB_Dep H enc w base n [c4] x2 f2
      obtain ⟨y3, g3, b3⟩ := opensB_slice (e := 97) Tryd.underlying44 (r := rDep) (by kernel_rfl) (by decide) opensB_Dep H enc w base n [c5] x3 f3
      obtain ⟨y4, g4, b4⟩ := opensB_slice (e := 97) Tryd.underlying44 (r := rDep) (by kernel_rfl) (by decide) opensB_Dep H enc w base n [c6] x4 f4
      refine ⟨⟨y0, y1, y2, y3, y4⟩, ⟨_, _, _, rfl, g0, g1_0, g1_1, g1_2, g2, g3, g4⟩, ?_⟩
      simp only [bkPack, Rows.uptoBulk, Rows.uptoBulkAll, List.map_cons, List.map_nil] at *
      omega

def bkDir (x : Dir) : Nat := 1 + bkL (fun s : ByteArray => s.size + 1) x.path + bkPack x.pack + 1
set_option maxRecDepth 100000 in
theorem opensB_Dir : OpensB Tryd.prog 49 rDir bkDir := by
  intro H enc w base fuel cs x h
  obtain ⟨xs, n, rfl, rfl, hlen, hxl, hf⟩ := DataW.trod_struct Tryd.underlying49 h
  rw [show Tryd.prog.cellsOf 49 = 9 from by kernel_rfl] at hlen
  match cs, hlen with
  | [c0, c1, c2, c3, c4, c5, c6, c7, c8], _ =>
    have k0 : Tryd.prog.cellsOf 47 = 1 := by kernel_rfl
    have k1 : Tryd.prog.cellsOf 46 = 7 := by kernel_rfl
    have k2 : Tryd.prog.cellsOf 3 = 1 := by kernel_rfl
    have f0 := hf 0 _ rfl
    have f1 := hf 1 _ rfl
    have f2 := hf 2 _ rfl
    match xs, hxl with
    | [x0, x1, x2], _ =>
      simp [k0, k1, k2] at f0 f1 f2
      obtain ⟨y0, g0, b0⟩ := opensB_slice (e := 9) Tryd.underlying47 (r := rStr) (by kernel_rfl) (by decide) (opensB_str Tryd.underlying9) H enc w base n [c0] x0 f0
      obtain ⟨y1, ⟨v1_0, v1_1, v1_2, h1, g1_0, g1_1, g1_2, g1_3, g1_4, g1_5, g1_6⟩, b1⟩ := opensB_Pack H enc w base n [c1, c2, c3, c4, c5, c6, c7] x1 f1
      simp only [List.cons.injEq, and_true] at h1
      obtain ⟨rfl, rfl, rfl, rfl, rfl, rfl, rfl⟩ := h1
      obtain ⟨y2, ⟨h2, g2⟩, b2⟩ := opensB_int Tryd.underlying3 H enc w base n [c8] x2 f2
      simp only [List.cons.injEq, and_true] at h2
      subst h2
      refine ⟨⟨y0, y1, y2⟩, ⟨_, _, _, _, rfl, g0, g1_0, g1_1, g1_2, g1_3, g1_4, g1_5, g1_6, g2⟩, ?_⟩
      simp only [bkDir, Rows.uptoBulk, Rows.uptoBulkAll, List.map_cons, List.map_nil] at *
      omega

def bkTree (x : Tree) : Nat := 1 + bkL bkDir x.dirs
set_option maxRecDepth 100000 in
theorem opensB_Tree : OpensB Tryd.prog 24 rTree bkTree := by
  intro H enc w base fuel cs x h
  obtain ⟨xs, n, rfl, rfl, hlen, hxl, hf⟩ := DataW.trod_struct Tryd.underlying24 h
  rw [show Tryd.prog.cellsOf 24 = 1 from by kernel_rfl] at hlen
  match cs, hlen with
  | [c0], _ =>
    have k0 : Tryd.prog.cellsOf 22 = 1 := by kernel_rfl
    have f0 := hf 0 _ rfl
    match xs, hxl with
    | [x0], _ =>
      simp [k0] at f0
      obtain ⟨y0, g0, b0⟩ := opensB_slice (e := 49) Tryd.underlying22 (r := rDir) (by kernel_rfl) (by decide) opensB_Dir H enc w base n [c0] x0 f0
      refine ⟨⟨y0⟩, ⟨_, rfl, g0⟩, ?_⟩
      simp only [bkTree, Rows.uptoBulk, Rows.uptoBulkAll, List.map_cons, List.map_nil] at *
      omega

def bkEdge (x : Edge) : Nat := 1 + (x.label.size + 1) + 1
set_option maxRecDepth 100000 in
theorem opensB_Edge : OpensB Tryd.prog 43 rEdge bkEdge := by
  intro H enc w base fuel cs x h
  obtain ⟨xs, n, rfl, rfl, hlen, hxl, hf⟩ := DataW.trod_struct Tryd.underlying43 h
  rw [show Tryd.prog.cellsOf 43 = 2 from by kernel_rfl] at hlen
  match cs, hlen with
  | [c0, c1], _ =>
    have k0 : Tryd.prog.cellsOf 3 = 1 := by kernel_rfl
    have k1 : Tryd.prog.cellsOf 9 = 1 := by kernel_rfl
    have f0 := hf 0 _ rfl
    have f1 := hf 1 _ rfl
    match xs, hxl with
    | [x0, x1], _ =>
      simp [k0, k1] at f0 f1
      obtain ⟨y0, ⟨h0, g0⟩, b0⟩ := opensB_str Tryd.underlying9 H enc w base n [c0] x0 f0
      simp only [List.cons.injEq, and_true] at h0
      subst h0
      obtain ⟨y1, ⟨h1, g1⟩, b1⟩ := opensB_int Tryd.underlying3 H enc w base n [c1] x1 f1
      simp only [List.cons.injEq, and_true] at h1
      subst h1
      refine ⟨⟨y0, y1⟩, ⟨rfl, g0, g1⟩, ?_⟩
      simp only [bkEdge, Rows.uptoBulk, Rows.uptoBulkAll, List.map_cons, List.map_nil] at *
      omega

def bkPin (x : Pin) : Nat := 1 + (x.name.size + 1) + bkVer x.ver
set_option maxRecDepth 100000 in
theorem opensB_Pin : OpensB Tryd.prog 172 rPin bkPin := by
  intro H enc w base fuel cs x h
  obtain ⟨xs, n, rfl, rfl, hlen, hxl, hf⟩ := DataW.trod_struct Tryd.underlying172 h
  rw [show Tryd.prog.cellsOf 172 = 4 from by kernel_rfl] at hlen
  match cs, hlen with
  | [c0, c1, c2, c3], _ =>
    have k0 : Tryd.prog.cellsOf 37 = 3 := by kernel_rfl
    have k1 : Tryd.prog.cellsOf 9 = 1 := by kernel_rfl
    have f0 := hf 0 _ rfl
    have f1 := hf 1 _ rfl
    match xs, hxl with
    | [x0, x1], _ =>
      simp [k0, k1] at f0 f1
      obtain ⟨y0, ⟨h0, g0⟩, b0⟩ := opensB_str Tryd.underlying9 H enc w base n [c0] x0 f0
      simp only [List.cons.injEq, and_true] at h0
      subst h0
      obtain ⟨y1, ⟨h1, g1_0, g1_1, g1_2⟩, b1⟩ := opensB_Ver H enc w base n [c1, c2, c3] x1 f1
      simp only [List.cons.injEq, and_true] at h1
      obtain ⟨rfl, rfl, rfl⟩ := h1
      refine ⟨⟨y0, y1⟩, ⟨rfl, g0, g1_0, g1_1, g1_2⟩, ?_⟩
      simp only [bkPin, Rows.uptoBulk, Rows.uptoBulkAll, List.map_cons, List.map_nil] at *
      omega

def bkNode (x : Node) : Nat := 1 + (x.name.size + 1) + bkVer x.ver + bkL bkPin x.ctx + bkL bkEdge x.edges
set_option maxRecDepth 100000 in
theorem opensB_Node : OpensB Tryd.prog 41 rNode bkNode := by
  intro H enc w base fuel cs x h
  obtain ⟨xs, n, rfl, rfl, hlen, hxl, hf⟩ := DataW.trod_struct Tryd.underlying41 h
  rw [show Tryd.prog.cellsOf 41 = 6 from by kernel_rfl] at hlen
  match cs, hlen with
  | [c0, c1, c2, c3, c4, c5], _ =>
    have k0 : Tryd.prog.cellsOf 39 = 1 := by kernel_rfl
    have k1 : Tryd.prog.cellsOf 38 = 1 := by kernel_rfl
    have k2 : Tryd.prog.cellsOf 37 = 3 := by kernel_rfl
    have k3 : Tryd.prog.cellsOf 9 = 1 := by kernel_rfl
    have f0 := hf 0 _ rfl
    have f1 := hf 1 _ rfl
    have f2 := hf 2 _ rfl
    have f3 := hf 3 _ rfl
    match xs, hxl with
    | [x0, x1, x2, x3], _ =>
      simp [k0, k1, k2, k3] at f0 f1 f2 f3
      obtain ⟨y0, ⟨h0, g0⟩, b0⟩ := opensB_str Tryd.underlying9 H enc w base n [c0] x0 f0
      simp only [List.cons.injEq, and_true] at h0
      subst h0
      obtain ⟨y1, ⟨h1, g1_0, g1_1, g1_2⟩, b1⟩ := opensB_Ver H enc w base n [c1, c2, c3] x1 f1
      simp only [List.cons.injEq, and_true] at h1
      obtain ⟨rfl, rfl, rfl⟩ := h1
      obtain ⟨y2, g2, b2⟩ := opensB_slice (e := 172) Tryd.underlying38 (r := rPin) (by kernel_rfl) (by decide) opensB_Pin H enc w base n [c4] x2 f2
      obtain ⟨y3, g3, b3⟩ := opensB_slice (e := 43) Tryd.underlying39 (r := rEdge) (by kernel_rfl) (by decide) opensB_Edge H enc w base n [c5] x3 f3
      refine ⟨⟨y0, y1, y2, y3⟩, ⟨_, _, rfl, g0, g1_0, g1_1, g1_2, g2, g3⟩, ?_⟩
      simp only [bkNode, Rows.uptoBulk, Rows.uptoBulkAll, List.map_cons, List.map_nil] at *
      omega

def bkGraph (x : Graph) : Nat := 1 + bkL bkNode x.nodes
set_option maxRecDepth 100000 in
theorem opensB_Graph : OpensB Tryd.prog 31 rGraph bkGraph := by
  intro H enc w base fuel cs x h
  obtain ⟨xs, n, rfl, rfl, hlen, hxl, hf⟩ := DataW.trod_struct Tryd.underlying31 h
  rw [show Tryd.prog.cellsOf 31 = 1 from by kernel_rfl] at hlen
  match cs, hlen with
  | [c0], _ =>
    have k0 : Tryd.prog.cellsOf 29 = 1 := by kernel_rfl
    have f0 := hf 0 _ rfl
    match xs, hxl with
    | [x0], _ =>
      simp [k0] at f0
      obtain ⟨y0, g0, b0⟩ := opensB_slice (e := 41) Tryd.underlying29 (r := rNode) (by kernel_rfl) (by decide) opensB_Node H enc w base n [c0] x0 f0
      refine ⟨⟨y0⟩, ⟨_, rfl, g0⟩, ?_⟩
      simp only [bkGraph, Rows.uptoBulk, Rows.uptoBulkAll, List.map_cons, List.map_nil] at *
      omega

def bkFile (x : File) : Nat := 1 + (x.path.size + 1) + 1 + (x.data.size + 1)
end Go.Proofs.YtanipbpphbkmcaaDoor
