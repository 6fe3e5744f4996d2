/-
  The program's values, opened: with the reading's bulk. (Printed by gen_data.py.)
-/
import Derived.Test.YtanipbpphbkmcaaGreatDoorOpenB
import Derived.Test.YtanipbpphbkmcaaGreatDoorData
import Derived.KernelRfl
namespace Go.Proofs.YtanipbpphbkmcaaGreatDoor
open Go.ChangeShapes Go.WideShapes Go.ChangeAt Go.RowKit
set_option linter.unusedVariables false
set_option linter.unusedSimpArgs false

def bkVer (x : Ver) : Nat := 1 + 1 + 1 + 1
set_option maxRecDepth 100000 in
theorem opensB_Ver : OpensB Tryz.prog 39 rVer bkVer := by
  intro H enc w base fuel cs x h
  obtain ⟨xs, n, rfl, rfl, hlen, hxl, hf⟩ := DataW.trod_struct Tryz.underlying39 h
  rw [show Tryz.prog.cellsOf 39 = 3 from by kernel_rfl] at hlen
  match cs, hlen with
  | [c0, c1, c2], _ =>
    have k0 : Tryz.prog.cellsOf 3 = 1 := by kernel_rfl
    have f0 := hf 0 _ rfl
    have f1 := hf 1 _ rfl
    have f2 := hf 2 _ rfl
    match xs, hxl with
    | [x0, x1, x2], _ =>
      simp [k0] at f0 f1 f2
      obtain ⟨y0, ⟨h0, g0⟩, b0⟩ := opensB_int Tryz.underlying3 H enc w base n [c0] x0 f0
      simp only [List.cons.injEq, and_true] at h0
      subst h0
      obtain ⟨y1, ⟨h1, g1⟩, b1⟩ := opensB_int Tryz.underlying3 H enc w base n [c1] x1 f1
      simp only [List.cons.injEq, and_true] at h1
      subst h1
      obtain ⟨y2, ⟨h2, g2⟩, b2⟩ := opensB_int Tryz.underlying3 H enc w base n [c2] x2 f2
      simp only [List.cons.injEq, and_true] at h2
      subst h2
      refine ⟨⟨y0, y1, y2⟩, ⟨rfl, g0, g1, g2⟩, ?_⟩
      simp only [bkVer, Rows.uptoBulk, Rows.uptoBulkAll, List.map_cons, List.map_nil] at *
      omega

def bkSpn (x : Spn) : Nat := 1 + bkVer x.lo + bkVer x.hi
set_option maxRecDepth 100000 in
theorem opensB_Spn : OpensB Tryz.prog 128 rSpn bkSpn := by
  intro H enc w base fuel cs x h
  obtain ⟨xs, n, rfl, rfl, hlen, hxl, hf⟩ := DataW.trod_struct Tryz.underlying128 h
  rw [show Tryz.prog.cellsOf 128 = 6 from by kernel_rfl] at hlen
  match cs, hlen with
  | [c0, c1, c2, c3, c4, c5], _ =>
    have k0 : Tryz.prog.cellsOf 39 = 3 := by kernel_rfl
    have f0 := hf 0 _ rfl
    have f1 := hf 1 _ rfl
    match xs, hxl with
    | [x0, x1], _ =>
      simp [k0] at f0 f1
      obtain ⟨y0, ⟨h0, g0_0, g0_1, g0_2⟩, b0⟩ := opensB_Ver H enc w base n [c0, c1, c2] x0 f0
      simp only [List.cons.injEq, and_true] at h0
      obtain ⟨rfl, rfl, rfl⟩ := h0
      obtain ⟨y1, ⟨h1, g1_0, g1_1, g1_2⟩, b1⟩ := opensB_Ver H enc w base n [c3, c4, c5] x1 f1
      simp only [List.cons.injEq, and_true] at h1
      obtain ⟨rfl, rfl, rfl⟩ := h1
      refine ⟨⟨y0, y1⟩, ⟨rfl, g0_0, g0_1, g0_2, g1_0, g1_1, g1_2⟩, ?_⟩
      simp only [bkSpn, Rows.uptoBulk, Rows.uptoBulkAll, List.map_cons, List.map_nil] at *
      omega

def bkDep (x : Dep) : Nat := 1 + (x.name.size + 1) + bkL bkSpn x.range
set_option maxRecDepth 100000 in
theorem opensB_Dep : OpensB Tryz.prog 125 rDep bkDep := by
  intro H enc w base fuel cs x h
  obtain ⟨xs, n, rfl, rfl, hlen, hxl, hf⟩ := DataW.trod_struct Tryz.underlying125 h
  rw [show Tryz.prog.cellsOf 125 = 2 from by kernel_rfl] at hlen
  match cs, hlen with
  | [c0, c1], _ =>
    have k0 : Tryz.prog.cellsOf 123 = 1 := by kernel_rfl
    have k1 : Tryz.prog.cellsOf 9 = 1 := by kernel_rfl
    have f0 := hf 0 _ rfl
    have f1 := hf 1 _ rfl
    match xs, hxl with
    | [x0, x1], _ =>
      simp [k0, k1] at f0 f1
      obtain ⟨y0, ⟨h0, g0⟩, b0⟩ := opensB_str Tryz.underlying9 H enc w base n [c0] x0 f0
      simp only [List.cons.injEq, and_true] at h0
      subst h0
      obtain ⟨y1, g1, b1⟩ := opensB_slice (e := 128) Tryz.underlying123 (r := rSpn) (by kernel_rfl) (by decide) opensB_Spn H enc w base n [c1] x1 f1
      refine ⟨⟨y0, y1⟩, ⟨_, rfl, g0, g1⟩, ?_⟩
      simp only [bkDep, Rows.uptoBulk, Rows.uptoBulkAll, List.map_cons, List.map_nil] at *
      omega

def bkPack (x : Pack) : Nat := 1 + (x.name.size + 1) + bkVer x.ver + bkL bkDep x.deps + bkL bkDep x.peers + bkL bkDep x.opts
set_option maxRecDepth 100000 in
theorem opensB_Pack : OpensB Tryz.prog 42 rPack bkPack := by
  intro H enc w base fuel cs x h
  obtain ⟨xs, n, rfl, rfl, hlen, hxl, hf⟩ := DataW.trod_struct Tryz.underlying42 h
  rw [show Tryz.prog.cellsOf 42 = 7 from by kernel_rfl] at hlen
  match cs, hlen with
  | [c0, c1, c2, c3, c4, c5, c6], _ =>
    have k0 : Tryz.prog.cellsOf 40 = 1 := by kernel_rfl
    have k1 : Tryz.prog.cellsOf 39 = 3 := by kernel_rfl
    have k2 : Tryz.prog.cellsOf 9 = 1 := by kernel_rfl
    have f0 := hf 0 _ rfl
    have f1 := hf 1 _ rfl
    have f2 := hf 2 _ rfl
    have f3 := hf 3 _ rfl
    have f4 := hf 4 _ rfl
    match xs, hxl with
    | [x0, x1, x2, x3, x4], _ =>
      simp [k0, k1, k2] at f0 f1 f2 f3 f4
      obtain ⟨y0, ⟨h0, g0⟩, b0⟩ := opensB_str Tryz.underlying9 H enc w base n [c0] x0 f0
      simp only [List.cons.injEq, and_true] at h0
      subst h0
      obtain ⟨y1, ⟨h1, g1_0, g1_1, g1_2⟩, b1⟩ := opensB_Ver H enc w base n [c1, c2, c3] x1 f1
      simp only [List.cons.injEq, and_true] at h1
      obtain ⟨rfl, rfl, rfl⟩ := h1
      obtain ⟨y2, g2, b2⟩ := opensB_slice (e := 125) Tryz.underlying40 (r := rDep) (by kernel_rfl) (by decide) opensB_Dep H enc w base n [c4] x2 f2
      obtain ⟨y3, g3, b3⟩ := opensB_slice (e := 125) Tryz.underlying40 (r := rDep) (by kernel_rfl) (by decide) opensB_Dep H enc w base n [c5] x3 f3
      obtain ⟨y4, g4, b4⟩ := opensB_slice (e := 125) Tryz.underlying40 (r := rDep) (by kernel_rfl) (by decide) opensB_Dep H enc w base n [c6] x4 f4
      refine ⟨⟨y0, y1, y2, y3, y4⟩, ⟨_, _, _, rfl, g0, g1_0, g1_1, g1_2, g2, g3, g4⟩, ?_⟩
      simp only [bkPack, Rows.uptoBulk, Rows.uptoBulkAll, List.map_cons, List.map_nil] at *
      omega

def bkDir (x : Dir) : Nat := 1 + bkL (fun s : ByteArray => s.size + 1) x.path + bkPack x.pack + 1
set_option maxRecDepth 100000 in
theorem opensB_Dir : OpensB Tryz.prog 44 rDir bkDir := by
  intro H enc w base fuel cs x h
  obtain ⟨xs, n, rfl, rfl, hlen, hxl, hf⟩ := DataW.trod_struct Tryz.underlying44 h
  rw [show Tryz.prog.cellsOf 44 = 9 from by kernel_rfl] at hlen
  match cs, hlen with
  | [c0, c1, c2, c3, c4, c5, c6, c7, c8], _ =>
    have k0 : Tryz.prog.cellsOf 37 = 1 := by kernel_rfl
    have k1 : Tryz.prog.cellsOf 42 = 7 := by kernel_rfl
    have k2 : Tryz.prog.cellsOf 3 = 1 := by kernel_rfl
    have f0 := hf 0 _ rfl
    have f1 := hf 1 _ rfl
    have f2 := hf 2 _ rfl
    match xs, hxl with
    | [x0, x1, x2], _ =>
      simp [k0, k1, k2] at f0 f1 f2
      obtain ⟨y0, g0, b0⟩ := opensB_slice (e := 9) Tryz.underlying37 (r := rStr) (by kernel_rfl) (by decide) (opensB_str Tryz.underlying9) H enc w base n [c0] x0 f0
      obtain ⟨y1, ⟨v1_0, v1_1, v1_2, h1, g1_0, g1_1, g1_2, g1_3, g1_4, g1_5, g1_6⟩, b1⟩ := opensB_Pack H enc w base n [c1, c2, c3, c4, c5, c6, c7] x1 f1
      simp only [List.cons.injEq, and_true] at h1
      obtain ⟨rfl, rfl, rfl, rfl, rfl, rfl, rfl⟩ := h1
      obtain ⟨y2, ⟨h2, g2⟩, b2⟩ := opensB_int Tryz.underlying3 H enc w base n [c8] x2 f2
      simp only [List.cons.injEq, and_true] at h2
      subst h2
      refine ⟨⟨y0, y1, y2⟩, ⟨_, _, _, _, rfl, g0, g1_0, g1_1, g1_2, g1_3, g1_4, g1_5, g1_6, g2⟩, ?_⟩
      simp only [bkDir, Rows.uptoBulk, Rows.uptoBulkAll, List.map_cons, List.map_nil] at *
      omega

def bkTree (x : Tree) : Nat := 1 + bkL bkDir x.dirs
set_option maxRecDepth 100000 in
theorem opensB_Tree : OpensB Tryz.prog 24 rTree bkTree := by
  intro H enc w base fuel cs x h
  obtain ⟨xs, n, rfl, rfl, hlen, hxl, hf⟩ := DataW.trod_struct Tryz.underlying24 h
  rw [show Tryz.prog.cellsOf 24 = 1 from by kernel_rfl] at hlen
  match cs, hlen with
  | [c0], _ =>
    have k0 : Tryz.prog.cellsOf 22 = 1 := by kernel_rfl
    have f0 := hf 0 _ rfl
    match xs, hxl with
    | [x0], _ =>
      simp [k0] at f0
      obtain ⟨y0, g0, b0⟩ := opensB_slice (e := 44) Tryz.underlying22 (r := rDir) (by kernel_rfl) (by decide) opensB_Dir H enc w base n [c0] x0 f0
      refine ⟨⟨y0⟩, ⟨_, rfl, g0⟩, ?_⟩
      simp only [bkTree, Rows.uptoBulk, Rows.uptoBulkAll, List.map_cons, List.map_nil] at *
      omega

def bkEdge (x : Edge) : Nat := 1 + (x.label.size + 1) + 1
set_option maxRecDepth 100000 in
theorem opensB_Edge : OpensB Tryz.prog 74 rEdge bkEdge := by
  intro H enc w base fuel cs x h
  obtain ⟨xs, n, rfl, rfl, hlen, hxl, hf⟩ := DataW.trod_struct Tryz.underlying74 h
  rw [show Tryz.prog.cellsOf 74 = 2 from by kernel_rfl] at hlen
  match cs, hlen with
  | [c0, c1], _ =>
    have k0 : Tryz.prog.cellsOf 3 = 1 := by kernel_rfl
    have k1 : Tryz.prog.cellsOf 9 = 1 := by kernel_rfl
    have f0 := hf 0 _ rfl
    have f1 := hf 1 _ rfl
    match xs, hxl with
    | [x0, x1], _ =>
      simp [k0, k1] at f0 f1
      obtain ⟨y0, ⟨h0, g0⟩, b0⟩ := opensB_str Tryz.underlying9 H enc w base n [c0] x0 f0
      simp only [List.cons.injEq, and_true] at h0
      subst h0
      obtain ⟨y1, ⟨h1, g1⟩, b1⟩ := opensB_int Tryz.underlying3 H enc w base n [c1] x1 f1
      simp only [List.cons.injEq, and_true] at h1
      subst h1
      refine ⟨⟨y0, y1⟩, ⟨rfl, g0, g1⟩, ?_⟩
      simp only [bkEdge, Rows.uptoBulk, Rows.uptoBulkAll, List.map_cons, List.map_nil] at *
      omega

def bkPin (x : Pin) : Nat := 1 + (x.name.size + 1) + bkVer x.ver
set_option maxRecDepth 100000 in
theorem opensB_Pin : OpensB Tryz.prog 224 rPin bkPin := by
  intro H enc w base fuel cs x h
  obtain ⟨xs, n, rfl, rfl, hlen, hxl, hf⟩ := DataW.trod_struct Tryz.underlying224 h
  rw [show Tryz.prog.cellsOf 224 = 4 from by kernel_rfl] at hlen
  match cs, hlen with
  | [c0, c1, c2, c3], _ =>
    have k0 : Tryz.prog.cellsOf 39 = 3 := by kernel_rfl
    have k1 : Tryz.prog.cellsOf 9 = 1 := by kernel_rfl
    have f0 := hf 0 _ rfl
    have f1 := hf 1 _ rfl
    match xs, hxl with
    | [x0, x1], _ =>
      simp [k0, k1] at f0 f1
      obtain ⟨y0, ⟨h0, g0⟩, b0⟩ := opensB_str Tryz.underlying9 H enc w base n [c0] x0 f0
      simp only [List.cons.injEq, and_true] at h0
      subst h0
      obtain ⟨y1, ⟨h1, g1_0, g1_1, g1_2⟩, b1⟩ := opensB_Ver H enc w base n [c1, c2, c3] x1 f1
      simp only [List.cons.injEq, and_true] at h1
      obtain ⟨rfl, rfl, rfl⟩ := h1
      refine ⟨⟨y0, y1⟩, ⟨rfl, g0, g1_0, g1_1, g1_2⟩, ?_⟩
      simp only [bkPin, Rows.uptoBulk, Rows.uptoBulkAll, List.map_cons, List.map_nil] at *
      omega

def bkNode (x : Node) : Nat := 1 + (x.name.size + 1) + bkVer x.ver + bkL bkPin x.ctx + bkL bkEdge x.edges
set_option maxRecDepth 100000 in
theorem opensB_Node : OpensB Tryz.prog 72 rNode bkNode := by
  intro H enc w base fuel cs x h
  obtain ⟨xs, n, rfl, rfl, hlen, hxl, hf⟩ := DataW.trod_struct Tryz.underlying72 h
  rw [show Tryz.prog.cellsOf 72 = 6 from by kernel_rfl] at hlen
  match cs, hlen with
  | [c0, c1, c2, c3, c4, c5], _ =>
    have k0 : Tryz.prog.cellsOf 70 = 1 := by kernel_rfl
    have k1 : Tryz.prog.cellsOf 69 = 1 := by kernel_rfl
    have k2 : Tryz.prog.cellsOf 39 = 3 := by kernel_rfl
    have k3 : Tryz.prog.cellsOf 9 = 1 := by kernel_rfl
    have f0 := hf 0 _ rfl
    have f1 := hf 1 _ rfl
    have f2 := hf 2 _ rfl
    have f3 := hf 3 _ rfl
    match xs, hxl with
    | [x0, x1, x2, x3], _ =>
      simp [k0, k1, k2, k3] at f0 f1 f2 f3
      obtain ⟨y0, ⟨h0, g0⟩, b0⟩ := opensB_str Tryz.underlying9 H enc w base n [c0] x0 f0
      simp only [List.cons.injEq, and_true] at h0
      subst h0
      obtain ⟨y1, ⟨h1, g1_0, g1_1, g1_2⟩, b1⟩ := opensB_Ver H enc w base n [c1, c2, c3] x1 f1
      simp only [List.cons.injEq, and_true] at h1
      obtain ⟨rfl, rfl, rfl⟩ := h1
      obtain ⟨y2, g2, b2⟩ := opensB_slice (e := 224) Tryz.underlying69 (r := rPin) (by kernel_rfl) (by decide) opensB_Pin H enc w base n [c4] x2 f2
      obtain ⟨y3, g3, b3⟩ := opensB_slice (e := 74) Tryz.underlying70 (r := rEdge) (by kernel_rfl) (by decide) opensB_Edge H enc w base n [c5] x3 f3
      refine ⟨⟨y0, y1, y2, y3⟩, ⟨_, _, rfl, g0, g1_0, g1_1, g1_2, g2, g3⟩, ?_⟩
      simp only [bkNode, Rows.uptoBulk, Rows.uptoBulkAll, List.map_cons, List.map_nil] at *
      omega

def bkGraph (x : Graph) : Nat := 1 + bkL bkNode x.nodes
set_option maxRecDepth 100000 in
theorem opensB_Graph : OpensB Tryz.prog 31 rGraph bkGraph := by
  intro H enc w base fuel cs x h
  obtain ⟨xs, n, rfl, rfl, hlen, hxl, hf⟩ := DataW.trod_struct Tryz.underlying31 h
  rw [show Tryz.prog.cellsOf 31 = 1 from by kernel_rfl] at hlen
  match cs, hlen with
  | [c0], _ =>
    have k0 : Tryz.prog.cellsOf 29 = 1 := by kernel_rfl
    have f0 := hf 0 _ rfl
    match xs, hxl with
    | [x0], _ =>
      simp [k0] at f0
      obtain ⟨y0, g0, b0⟩ := opensB_slice (e := 72) Tryz.underlying29 (r := rNode) (by kernel_rfl) (by decide) opensB_Node H enc w base n [c0] x0 f0
      refine ⟨⟨y0⟩, ⟨_, rfl, g0⟩, ?_⟩
      simp only [bkGraph, Rows.uptoBulk, Rows.uptoBulkAll, List.map_cons, List.map_nil] at *
      omega

def bkFile (x : File) : Nat := 1 + (x.path.size + 1) + 1 + (x.data.size + 1)
set_option maxRecDepth 100000 in
theorem opensB_File : OpensB Tryz.prog 79 rFile bkFile := by
  intro H enc w base fuel cs x h
  obtain ⟨xs, n, rfl, rfl, hlen, hxl, hf⟩ := DataW.trod_struct Tryz.underlying79 h
  rw [show Tryz.prog.cellsOf 79 = 3 from by kernel_rfl] at hlen
  match cs, hlen with
  | [c0, c1, c2], _ =>
    have k0 : Tryz.prog.cellsOf 4 = 1 := by kernel_rfl
    have k1 : Tryz.prog.cellsOf 9 = 1 := by kernel_rfl
    have f0 := hf 0 _ rfl
    have f1 := hf 1 _ rfl
    have f2 := hf 2 _ rfl
    match xs, hxl with
    | [x0, x1, x2], _ =>
      simp [k0, k1] at f0 f1 f2
      obtain ⟨y0, ⟨h0, g0⟩, b0⟩ := opensB_str Tryz.underlying9 H enc w base n [c0] x0 f0
      simp only [List.cons.injEq, and_true] at h0
      subst h0
      obtain ⟨y1, h1, b1⟩ := opensB_bool Tryz.underlying4 H enc w base n [c1] x1 f1
      simp only [rBool, List.cons.injEq, and_true] at h1
      subst h1
      obtain ⟨y2, ⟨h2, g2⟩, b2⟩ := opensB_str Tryz.underlying9 H enc w base n [c2] x2 f2
      simp only [List.cons.injEq, and_true] at h2
      subst h2
      refine ⟨⟨y0, y1, y2⟩, ⟨rfl, g0, g2⟩, ?_⟩
      simp only [bkFile, Rows.uptoBulk, Rows.uptoBulkAll, List.map_cons, List.map_nil] at *
      omega

end Go.Proofs.YtanipbpphbkmcaaGreatDoor
