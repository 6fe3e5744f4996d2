/-
  The program's values as data: versions, spans, packages, directories, trees, graphs. (Printed by gen_data.py.)
  Arguments of a law, opened: trees, graphs, lists of names and of files, whole numbers, texts.
-/
import Derived.Test.YtminjjdnmpaaoaaGreatDoorPp01
import Derived.KernelRfl
import Derived.ProofKit
import Derived.OpenShut
namespace Go.Proofs.YtminjjdnmpaaoaaGreatDoor
open Go.RowKit
set_option linter.unusedVariables false

structure Ver where
  major : Int
  minor : Int
  patch : Int
def rVer : Rp Ver where
  size := 3
  holds := fun w S x cs => cs = [.int .i64 x.major, .int .i64 x.minor, .int .i64 x.patch] ∧ I64 x.major ∧ I64 x.minor ∧ I64 x.patch
  len := fun ⟨h, c0, c1, c2⟩ => by rw [h]; rfl
  one := fun ⟨h, c0, c1, c2⟩ => by rw [h]; simp [Value.oneCell']
  mono := fun ⟨h, c0, c1, c2⟩ hk => ⟨h, c0, c1, c2⟩

structure Spn where
  lo : Ver
  hi : Ver
def rSpn : Rp Spn where
  size := 6
  holds := fun w S x cs => cs = [.int .i64 x.lo.major, .int .i64 x.lo.minor, .int .i64 x.lo.patch, .int .i64 x.hi.major, .int .i64 x.hi.minor, .int .i64 x.hi.patch] ∧ I64 x.lo.major ∧ I64 x.lo.minor ∧ I64 x.lo.patch ∧ I64 x.hi.major ∧ I64 x.hi.minor ∧ I64 x.hi.patch
  len := fun ⟨h, c0, c1, c2, c3, c4, c5⟩ => by rw [h]; rfl
  one := fun ⟨h, c0, c1, c2, c3, c4, c5⟩ => by rw [h]; simp [Value.oneCell']
  mono := fun ⟨h, c0, c1, c2, c3, c4, c5⟩ hk => ⟨h, c0, c1, c2, c3, c4, c5⟩

structure Dep where
  name : ByteArray
  range : List Spn
def rDep : Rp Dep where
  size := 2
  holds := fun w S x cs => ∃ s0, cs = [.string x.name, s0] ∧ x.name.size ≤ maxLen ∧ SlV rSpn w S x.range s0
  len := fun ⟨s0, h, c0, c1⟩ => by rw [h]; rfl
  one := fun ⟨s0, h, c0, c1⟩ => by obtain ⟨_, _, rfl, _⟩ := c1.val; rw [h]; simp [Value.oneCell']
  mono := fun ⟨s0, h, c0, c1⟩ hk => ⟨s0, h, c0, (rSlice rSpn).mono c1 hk⟩

structure Pack where
  name : ByteArray
  ver : Ver
  deps : List Dep
  peers : List Dep
  opts : List Dep
def rPack : Rp Pack where
  size := 7
  holds := fun w S x cs => ∃ s0 s1 s2, cs = [.string x.name, .int .i64 x.ver.major, .int .i64 x.ver.minor, .int .i64 x.ver.patch, s0, s1, s2] ∧ x.name.size ≤ maxLen ∧ I64 x.ver.major ∧ I64 x.ver.minor ∧ I64 x.ver.patch ∧ SlV rDep w S x.deps s0 ∧ SlV rDep w S x.peers s1 ∧ SlV rDep w S x.opts s2
  len := fun ⟨s0, s1, s2, h, c0, c1, c2, c3, c4, c5, c6⟩ => by rw [h]; rfl
  one := fun ⟨s0, s1, s2, h, c0, c1, c2, c3, c4, c5, c6⟩ => by obtain ⟨_, _, rfl, _⟩ := c4.val; obtain ⟨_, _, rfl, _⟩ := c5.val; obtain ⟨_, _, rfl, _⟩ := c6.val; rw [h]; simp [Value.oneCell']
  mono := fun ⟨s0, s1, s2, h, c0, c1, c2, c3, c4, c5, c6⟩ hk => ⟨s0, s1, s2, h, c0, c1, c2, c3, (rSlice rDep).mono c4 hk, (rSlice rDep).mono c5 hk, (rSlice rDep).mono c6 hk⟩

structure Dir where
  path : List ByteArray
  pack : Pack
  node : Int
def rDir : Rp Dir where
  size := 9
  holds := fun w S x cs => ∃ s0 s1 s2 s3, cs = [s0, .string x.pack.name, .int .i64 x.pack.ver.major, .int .i64 x.pack.ver.minor, .int .i64 x.pack.ver.patch, s1, s2, s3, .int .i64 x.node] ∧ SlV rStr w S x.path s0 ∧ x.pack.name.size ≤ maxLen ∧ I64 x.pack.ver.major ∧ I64 x.pack.ver.minor ∧ I64 x.pack.ver.patch ∧ SlV rDep w S x.pack.deps s1 ∧ SlV rDep w S x.pack.peers s2 ∧ SlV rDep w S x.pack.opts s3 ∧ I64 x.node
  len := fun ⟨s0, s1, s2, s3, h, c0, c1, c2, c3, c4, c5, c6, c7, c8⟩ => by rw [h]; rfl
  one := fun ⟨s0, s1, s2, s3, h, c0, c1, c2, c3, c4, c5, c6, c7, c8⟩ => by obtain ⟨_, _, rfl, _⟩ := c0.val; obtain ⟨_, _, rfl, _⟩ := c5.val; obtain ⟨_, _, rfl, _⟩ := c6.val; obtain ⟨_, _, rfl, _⟩ := c7.val; rw [h]; simp [Value.oneCell']
  mono := fun ⟨s0, s1, s2, s3, h, c0, c1, c2, c3, c4, c5, c6, c7, c8⟩ hk => ⟨s0, s1, s2, s3, h, (rSlice rStr).mono c0 hk, c1, c2, c3, c4, (rSlice rDep).mono c5 hk, (rSlice rDep).mono c6 hk, (rSlice rDep).mono c7 hk, c8⟩

structure Tree where
  dirs : List Dir
def rTree : Rp Tree where
  size := 1
  holds := fun w S x cs => ∃ s0, cs = [s0] ∧ SlV rDir w S x.dirs s0
  len := fun ⟨s0, h, c0⟩ => by rw [h]; rfl
  one := fun ⟨s0, h, c0⟩ => by obtain ⟨_, _, rfl, _⟩ := c0.val; rw [h]; simp [Value.oneCell']
  mono := fun ⟨s0, h, c0⟩ hk => ⟨s0, h, (rSlice rDir).mono c0 hk⟩

structure Edge where
  label : ByteArray
  to : Int
def rEdge : Rp Edge where
  size := 2
  holds := fun w S x cs => cs = [.string x.label, .int .i64 x.to] ∧ x.label.size ≤ maxLen ∧ I64 x.to
  len := fun ⟨h, c0, c1⟩ => by rw [h]; rfl
  one := fun ⟨h, c0, c1⟩ => by rw [h]; simp [Value.oneCell']
  mono := fun ⟨h, c0, c1⟩ hk => ⟨h, c0, c1⟩

structure Pin where
  name : ByteArray
  ver : Ver
def rPin : Rp Pin where
  size := 4
  holds := fun w S x cs => cs = [.string x.name, .int .i64 x.ver.major, .int .i64 x.ver.minor, .int .i64 x.ver.patch] ∧ x.name.size ≤ maxLen ∧ I64 x.ver.major ∧ I64 x.ver.minor ∧ I64 x.ver.patch
  len := fun ⟨h, c0, c1, c2, c3⟩ => by rw [h]; rfl
  one := fun ⟨h, c0, c1, c2, c3⟩ => by rw [h]; simp [Value.oneCell']
  mono := fun ⟨h, c0, c1, c2, c3⟩ hk => ⟨h, c0, c1, c2, c3⟩

structure Node where
  name : ByteArray
  ver : Ver
  ctx : List Pin
  edges : List Edge
def rNode : Rp Node where
  size := 6
  holds := fun w S x cs => ∃ s0 s1, cs = [.string x.name, .int .i64 x.ver.major, .int .i64 x.ver.minor, .int .i64 x.ver.patch, s0, s1] ∧ x.name.size ≤ maxLen ∧ I64 x.ver.major ∧ I64 x.ver.minor ∧ I64 x.ver.patch ∧ SlV rPin w S x.ctx s0 ∧ SlV rEdge w S x.edges s1
  len := fun ⟨s0, s1, h, c0, c1, c2, c3, c4, c5⟩ => by rw [h]; rfl
  one := fun ⟨s0, s1, h, c0, c1, c2, c3, c4, c5⟩ => by obtain ⟨_, _, rfl, _⟩ := c4.val; obtain ⟨_, _, rfl, _⟩ := c5.val; rw [h]; simp [Value.oneCell']
  mono := fun ⟨s0, s1, h, c0, c1, c2, c3, c4, c5⟩ hk => ⟨s0, s1, h, c0, c1, c2, c3, (rSlice rPin).mono c4 hk, (rSlice rEdge).mono c5 hk⟩

structure Graph where
  nodes : List Node
def rGraph : Rp Graph where
  size := 1
  holds := fun w S x cs => ∃ s0, cs = [s0] ∧ SlV rNode w S x.nodes s0
  len := fun ⟨s0, h, c0⟩ => by rw [h]; rfl
  one := fun ⟨s0, h, c0⟩ => by obtain ⟨_, _, rfl, _⟩ := c0.val; rw [h]; simp [Value.oneCell']
  mono := fun ⟨s0, h, c0⟩ hk => ⟨s0, h, (rSlice rNode).mono c0 hk⟩

structure File where
  path : ByteArray
  dir : Bool
  data : ByteArray
end Go.Proofs.YtminjjdnmpaaoaaGreatDoor
/-
  The program's values, opened: with the reading's bulk. (Printed by gen_data.py.)
-/
namespace Go.Proofs.YtminjjdnmpaaoaaGreatDoor
open Go.ChangeShapes Go.WideShapes Go.ChangeAt Go.RowKit
set_option linter.unusedVariables false
set_option linter.unusedSimpArgs false

def bkVer (x : Ver) : Nat := 1 + 1 + 1 + 1
set_option maxRecDepth 100000 in
theorem opensB_Ver : OpensB Tryz.prog 50 rVer bkVer := by
  intro H enc w base fuel cs x h
  obtain ⟨xs, n, rfl, rfl, hlen, hxl, hf⟩ := DataW.trod_struct Tryz.underlying50 h
  rw [show Tryz.prog.cellsOf 50 = 3 from by kernel_rfl] at hlen
  match cs, hlen with
  | [c0, c1, c2], _ =>
    have k0 : Tryz.prog.cellsOf 3 = 1 := by kernel_rfl
    have f0 := hf 0 _ rfl
    have f1 := hf 1 _ rfl
    have f2 := hf 2 _ rfl
    match xs, hxl with
    | [x0, x1, x2], _ =>
      simp [k0] at f0 f1 f2
      obtain ⟨y0, ⟨h0, g0⟩, b0⟩ := opensB_int Tryz.underlying3 H enc w base n [c0] x0 f0
      simp only [List.cons.injEq, and_true] at h0
      subst h0
      obtain ⟨y1, ⟨h1, g1⟩, b1⟩ := opensB_int Tryz.underlying3 H enc w base n [c1] x1 f1
      simp only [List.cons.injEq, and_true] at h1
      subst h1
      obtain ⟨y2, ⟨h2, g2⟩, b2⟩ := opensB_int Tryz.underlying3 H enc w base n [c2] x2 f2
      simp only [List.cons.injEq, and_true] at h2
      subst h2
      refine ⟨⟨y0, y1, y2⟩, ⟨rfl, g0, g1, g2⟩, ?_⟩
      simp only [bkVer, Rows.uptoBulk, Rows.uptoBulkAll, List.map_cons, List.map_nil] at *
      omega

def bkSpn (x : Spn) : Nat := 1 + bkVer x.lo + bkVer x.hi
set_option maxRecDepth 100000 in
theorem opensB_Spn : OpensB Tryz.prog 70 rSpn bkSpn := by
  intro H enc w base fuel cs x h
  obtain ⟨xs, n, rfl, rfl, hlen, hxl, hf⟩ := DataW.trod_struct Tryz.underlying70 h
  rw [show Tryz.prog.cellsOf 70 = 6 from by kernel_rfl] at hlen
  match cs, hlen with
  | [c0, c1, c2, c3, c4, c5], _ =>
    have k0 : Tryz.prog.cellsOf 50 = 3 := by kernel_rfl
    have f0 := hf 0 _ rfl
    have f1 := hf 1 _ rfl
    match xs, hxl with
    | [x0, x1], _ =>
      simp [k0] at f0 f1
      obtain ⟨y0, ⟨h0, g0_0, g0_1, g0_2⟩, b0⟩ := opensB_Ver H enc w base n [c0, c1, c2] x0 f0
      simp only [List.cons.injEq, and_true] at h0
      obtain ⟨rfl, rfl, rfl⟩ := h0
      obtain ⟨y1, ⟨h1, g1_0, g1_1, g1_2⟩, b1⟩ := opensB_Ver H enc w base n [c3, c4, c5] x1 f1
      simp only [List.cons.injEq, and_true] at h1
      obtain ⟨rfl, rfl, rfl⟩ := h1
      refine ⟨⟨y0, y1⟩, ⟨rfl, g0_0, g0_1, g0_2, g1_0, g1_1, g1_2⟩, ?_⟩
      simp only [bkSpn, Rows.uptoBulk, Rows.uptoBulkAll, List.map_cons, List.map_nil] at *
      omega

def bkDep (x : Dep) : Nat := 1 + (x.name.size + 1) + bkL bkSpn x.range
set_option maxRecDepth 100000 in
theorem opensB_Dep : OpensB Tryz.prog 68 rDep bkDep := by
  intro H enc w base fuel cs x h
  obtain ⟨xs, n, rfl, rfl, hlen, hxl, hf⟩ := DataW.trod_struct Tryz.underlying68 h
  rw [show Tryz.prog.cellsOf 68 = 2 from by kernel_rfl] at hlen
  match cs, hlen with
  | [c0, c1], _ =>
    have k0 : Tryz.prog.cellsOf 66 = 1 := by kernel_rfl
    have k1 : Tryz.prog.cellsOf 9 = 1 := by kernel_rfl
    have f0 := hf 0 _ rfl
    have f1 := hf 1 _ rfl
    match xs, hxl with
    | [x0, x1], _ =>
      simp [k0, k1] at f0 f1
      obtain ⟨y0, ⟨h0, g0⟩, b0⟩ := opensB_str Tryz.underlying9 H enc w base n [c0] x0 f0
      simp only [List.cons.injEq, and_true] at h0
      subst h0
      obtain ⟨y1, g1, b1⟩ := opensB_slice (e := 70) Tryz.underlying66 (r := rSpn) (by kernel_rfl) (by decide) opensB_Spn H enc w base n [c1] x1 f1
      refine ⟨⟨y0, y1⟩, ⟨_, rfl, g0, g1⟩, ?_⟩
      simp only [bkDep, Rows.uptoBulk, Rows.uptoBulkAll, List.map_cons, List.map_nil] at *
      omega

def bkPack (x : Pack) : Nat := 1 + (x.name.size + 1) + bkVer x.ver + bkL bkDep x.deps + bkL bkDep x.peers + bkL bkDep x.opts
set_option maxRecDepth 100000 in
theorem opensB_Pack : OpensB Tryz.prog 52 rPack bkPack := by
  intro H enc w base fuel cs x h
  obtain ⟨xs, n, rfl, rfl, hlen, hxl, hf⟩ := DataW.trod_struct Tryz.underlying52 h
  rw [show Tryz.prog.cellsOf 52 = 7 from by kernel_rfl] at hlen
  match cs, hlen with
  | [c0, c1, c2, c3, c4, c5, c6], _ =>
    have k0 : Tryz.prog.cellsOf 26 = 1 := by kernel_rfl
    have k1 : Tryz.prog.cellsOf 50 = 3 := by kernel_rfl
    have k2 : Tryz.prog.cellsOf 9 = 1 := by kernel_rfl
    have f0 := hf 0 _ rfl
    have f1 := hf 1 _ rfl
    have f2 := hf 2 _ rfl
    have f3 := hf 3 _ rfl
    have f4 := hf 4 _ rfl
    match xs, hxl with
    | [x0, x1, x2, x3, x4], _ =>
      simp [k0, k1, k2] at f0 f1 f2 f3 f4
      obtain ⟨y0, ⟨h0, g0⟩, b0⟩ := opensB_str Tryz.underlying9 H enc w base n [c0] x0 f0
      simp only [List.cons.injEq, and_true] at h0
      subst h0
      obtain ⟨y1, ⟨h1, g1_0, g1_1, g1_2⟩, b1⟩ := opensB_Ver H enc w base n [c1, c2, c3] x1 f1
      simp only [List.cons.injEq, and_true] at h1
      obtain ⟨rfl, rfl, rfl⟩ := h1
      obtain ⟨y2, g2, b2⟩ := opensB_slice (e := 68) Tryz.underlying26 (r := rDep) (by kernel_rfl) (by decide) opensB_Dep H enc w base n [c4] x2 f2
      obtain ⟨y3, g3, b3⟩ := opensB_slice (e := 68) Tryz.underlying26 (r := rDep) (by kernel_rfl) (by decide) opensB_Dep H enc w base n [c5] x3 f3
      obtain ⟨y4, g4, b4⟩ := opensB_slice (e := 68) Tryz.underlying26 (r := rDep) (by kernel_rfl) (by decide) opensB_Dep H enc w base n [c6] x4 f4
      refine ⟨⟨y0, y1, y2, y3, y4⟩, ⟨_, _, _, rfl, g0, g1_0, g1_1, g1_2, g2, g3, g4⟩, ?_⟩
      simp only [bkPack, Rows.uptoBulk, Rows.uptoBulkAll, List.map_cons, List.map_nil] at *
      omega

def bkDir (x : Dir) : Nat := 1 + bkL (fun s : ByteArray => s.size + 1) x.path + bkPack x.pack + 1
set_option maxRecDepth 100000 in
theorem opensB_Dir : OpensB Tryz.prog 54 rDir bkDir := by
  intro H enc w base fuel cs x h
  obtain ⟨xs, n, rfl, rfl, hlen, hxl, hf⟩ := DataW.trod_struct Tryz.underlying54 h
  rw [show Tryz.prog.cellsOf 54 = 9 from by kernel_rfl] at hlen
  match cs, hlen with
  | [c0, c1, c2, c3, c4, c5, c6, c7, c8], _ =>
    have k0 : Tryz.prog.cellsOf 48 = 1 := by kernel_rfl
    have k1 : Tryz.prog.cellsOf 52 = 7 := by kernel_rfl
    have k2 : Tryz.prog.cellsOf 3 = 1 := by kernel_rfl
    have f0 := hf 0 _ rfl
    have f1 := hf 1 _ rfl
    have f2 := hf 2 _ rfl
    match xs, hxl with
    | [x0, x1, x2], _ =>
      simp [k0, k1, k2] at f0 f1 f2
      obtain ⟨y0, g0, b0⟩ := opensB_slice (e := 9) Tryz.underlying48 (r := rStr) (by kernel_rfl) (by decide) (opensB_str Tryz.underlying9) H enc w base n [c0] x0 f0
      obtain ⟨y1, ⟨v1_0, v1_1, v1_2, h1, g1_0, g1_1, g1_2, g1_3, g1_4, g1_5, g1_6⟩, b1⟩ := opensB_Pack H enc w base n [c1, c2, c3, c4, c5, c6, c7] x1 f1
      simp only [List.cons.injEq, and_true] at h1
      obtain ⟨rfl, rfl, rfl, rfl, rfl, rfl, rfl⟩ := h1
      obtain ⟨y2, ⟨h2, g2⟩, b2⟩ := opensB_int Tryz.underlying3 H enc w base n [c8] x2 f2
      simp only [List.cons.injEq, and_true] at h2
      subst h2
      refine ⟨⟨y0, y1, y2⟩, ⟨_, _, _, _, rfl, g0, g1_0, g1_1, g1_2, g1_3, g1_4, g1_5, g1_6, g2⟩, ?_⟩
      simp only [bkDir, Rows.uptoBulk, Rows.uptoBulkAll, List.map_cons, List.map_nil] at *
      omega

def bkTree (x : Tree) : Nat := 1 + bkL bkDir x.dirs
set_option maxRecDepth 100000 in
theorem opensB_Tree : OpensB Tryz.prog 33 rTree bkTree := by
  intro H enc w base fuel cs x h
  obtain ⟨xs, n, rfl, rfl, hlen, hxl, hf⟩ := DataW.trod_struct Tryz.underlying33 h
  rw [show Tryz.prog.cellsOf 33 = 1 from by kernel_rfl] at hlen
  match cs, hlen with
  | [c0], _ =>
    have k0 : Tryz.prog.cellsOf 31 = 1 := by kernel_rfl
    have f0 := hf 0 _ rfl
    match xs, hxl with
    | [x0], _ =>
      simp [k0] at f0
      obtain ⟨y0, g0, b0⟩ := opensB_slice (e := 54) Tryz.underlying31 (r := rDir) (by kernel_rfl) (by decide) opensB_Dir H enc w base n [c0] x0 f0
      refine ⟨⟨y0⟩, ⟨_, rfl, g0⟩, ?_⟩
      simp only [bkTree, Rows.uptoBulk, Rows.uptoBulkAll, List.map_cons, List.map_nil] at *
      omega

def bkEdge (x : Edge) : Nat := 1 + (x.label.size + 1) + 1
set_option maxRecDepth 100000 in
theorem opensB_Edge : OpensB Tryz.prog 61 rEdge bkEdge := by
  intro H enc w base fuel cs x h
  obtain ⟨xs, n, rfl, rfl, hlen, hxl, hf⟩ := DataW.trod_struct Tryz.underlying61 h
  rw [show Tryz.prog.cellsOf 61 = 2 from by kernel_rfl] at hlen
  match cs, hlen with
  | [c0, c1], _ =>
    have k0 : Tryz.prog.cellsOf 3 = 1 := by kernel_rfl
    have k1 : Tryz.prog.cellsOf 9 = 1 := by kernel_rfl
    have f0 := hf 0 _ rfl
    have f1 := hf 1 _ rfl
    match xs, hxl with
    | [x0, x1], _ =>
      simp [k0, k1] at f0 f1
      obtain ⟨y0, ⟨h0, g0⟩, b0⟩ := opensB_str Tryz.underlying9 H enc w base n [c0] x0 f0
      simp only [List.cons.injEq, and_true] at h0
      subst h0
      obtain ⟨y1, ⟨h1, g1⟩, b1⟩ := opensB_int Tryz.underlying3 H enc w base n [c1] x1 f1
      simp only [List.cons.injEq, and_true] at h1
      subst h1
      refine ⟨⟨y0, y1⟩, ⟨rfl, g0, g1⟩, ?_⟩
      simp only [bkEdge, Rows.uptoBulk, Rows.uptoBulkAll, List.map_cons, List.map_nil] at *
      omega

def bkPin (x : Pin) : Nat := 1 + (x.name.size + 1) + bkVer x.ver
set_option maxRecDepth 100000 in
theorem opensB_Pin : OpensB Tryz.prog 63 rPin bkPin := by
  intro H enc w base fuel cs x h
  obtain ⟨xs, n, rfl, rfl, hlen, hxl, hf⟩ := DataW.trod_struct Tryz.underlying63 h
  rw [show Tryz.prog.cellsOf 63 = 4 from by kernel_rfl] at hlen
  match cs, hlen with
  | [c0, c1, c2, c3], _ =>
    have k0 : Tryz.prog.cellsOf 50 = 3 := by kernel_rfl
    have k1 : Tryz.prog.cellsOf 9 = 1 := by kernel_rfl
    have f0 := hf 0 _ rfl
    have f1 := hf 1 _ rfl
    match xs, hxl with
    | [x0, x1], _ =>
      simp [k0, k1] at f0 f1
      obtain ⟨y0, ⟨h0, g0⟩, b0⟩ := opensB_str Tryz.underlying9 H enc w base n [c0] x0 f0
      simp only [List.cons.injEq, and_true] at h0
      subst h0
      obtain ⟨y1, ⟨h1, g1_0, g1_1, g1_2⟩, b1⟩ := opensB_Ver H enc w base n [c1, c2, c3] x1 f1
      simp only [List.cons.injEq, and_true] at h1
      obtain ⟨rfl, rfl, rfl⟩ := h1
      refine ⟨⟨y0, y1⟩, ⟨rfl, g0, g1_0, g1_1, g1_2⟩, ?_⟩
      simp only [bkPin, Rows.uptoBulk, Rows.uptoBulkAll, List.map_cons, List.map_nil] at *
      omega

def bkNode (x : Node) : Nat := 1 + (x.name.size + 1) + bkVer x.ver + bkL bkPin x.ctx + bkL bkEdge x.edges
set_option maxRecDepth 100000 in
theorem opensB_Node : OpensB Tryz.prog 58 rNode bkNode := by
  intro H enc w base fuel cs x h
  obtain ⟨xs, n, rfl, rfl, hlen, hxl, hf⟩ := DataW.trod_struct Tryz.underlying58 h
  rw [show Tryz.prog.cellsOf 58 = 6 from by kernel_rfl] at hlen
  match cs, hlen with
  | [c0, c1, c2, c3, c4, c5], _ =>
    have k0 : Tryz.prog.cellsOf 56 = 1 := by kernel_rfl
    have k1 : Tryz.prog.cellsOf 55 = 1 := by kernel_rfl
    have k2 : Tryz.prog.cellsOf 50 = 3 := by kernel_rfl
    have k3 : Tryz.prog.cellsOf 9 = 1 := by kernel_rfl
    have f0 := hf 0 _ rfl
    have f1 := hf 1 _ rfl
    have f2 := hf 2 _ rfl
    have f3 := hf 3 _ rfl
    match xs, hxl with
    | [x0, x1, x2, x3], _ =>
      simp [k0, k1, k2, k3] at f0 f1 f2 f3
      obtain ⟨y0, ⟨h0, g0⟩, b0⟩ := opensB_str Tryz.underlying9 H enc w base n [c0] x0 f0
      simp only [List.cons.injEq, and_true] at h0
      subst h0
      obtain ⟨y1, ⟨h1, g1_0, g1_1, g1_2⟩, b1⟩ := opensB_Ver H enc w base n [c1, c2, c3] x1 f1
      simp only [List.cons.injEq, and_true] at h1
      obtain ⟨rfl, rfl, rfl⟩ := h1
      obtain ⟨y2, g2, b2⟩ := opensB_slice (e := 63) Tryz.underlying55 (r := rPin) (by kernel_rfl) (by decide) opensB_Pin H enc w base n [c4] x2 f2
      obtain ⟨y3, g3, b3⟩ := opensB_slice (e := 61) Tryz.underlying56 (r := rEdge) (by kernel_rfl) (by decide) opensB_Edge H enc w base n [c5] x3 f3
      refine ⟨⟨y0, y1, y2, y3⟩, ⟨_, _, rfl, g0, g1_0, g1_1, g1_2, g2, g3⟩, ?_⟩
      simp only [bkNode, Rows.uptoBulk, Rows.uptoBulkAll, List.map_cons, List.map_nil] at *
      omega

def bkGraph (x : Graph) : Nat := 1 + bkL bkNode x.nodes
set_option maxRecDepth 100000 in
theorem opensB_Graph : OpensB Tryz.prog 24 rGraph bkGraph := by
  intro H enc w base fuel cs x h
  obtain ⟨xs, n, rfl, rfl, hlen, hxl, hf⟩ := DataW.trod_struct Tryz.underlying24 h
  rw [show Tryz.prog.cellsOf 24 = 1 from by kernel_rfl] at hlen
  match cs, hlen with
  | [c0], _ =>
    have k0 : Tryz.prog.cellsOf 22 = 1 := by kernel_rfl
    have f0 := hf 0 _ rfl
    match xs, hxl with
    | [x0], _ =>
      simp [k0] at f0
      obtain ⟨y0, g0, b0⟩ := opensB_slice (e := 58) Tryz.underlying22 (r := rNode) (by kernel_rfl) (by decide) opensB_Node H enc w base n [c0] x0 f0
      refine ⟨⟨y0⟩, ⟨_, rfl, g0⟩, ?_⟩
      simp only [bkGraph, Rows.uptoBulk, Rows.uptoBulkAll, List.map_cons, List.map_nil] at *
      omega

end Go.Proofs.YtminjjdnmpaaoaaGreatDoor
set_option maxRecDepth 100000
namespace Go.Proofs.YtminjjdnmpaaoaaGreatDoor
open Go.ChangeShapes Go.WideShapes Go.ChangeAt Go.RowKit
set_option linter.unusedVariables false
set_option linter.unusedSimpArgs false

theorem graph_arg {H : Type} {enc : TypeId × Value → H} {w : World} {v : Value} {d : DataW H} {ps : List MemPlace} {base : Nat} {r : Reach}
    (hv : Value.okWide Tryz.prog w r base 24 v) (h : DataW.Trod enc Tryz.prog w 0 (fun _ => true) true 24 v d ps) :
    ∃ A n c xs, v = .agg #[.slice A n c] ∧ SlV rNode w (fun b => b < w.heap.size) xs (.slice A n c) ∧ 1 + bkL bkNode xs ≤ Rows.uptoBulk d := by
  obtain ⟨y, hy, hbk⟩ := opensB_arg opensB_Graph h
  obtain ⟨cs, rfl, _⟩ := okWide_struct Tryz.underlying24 hv
  obtain ⟨s0, hcs, hs⟩ := hy
  have e : cs.toList = [s0] := hcs
  obtain rfl : cs = #[s0] := Array.ext' e
  obtain ⟨A, c, rfl, _, _⟩ := hs.val
  exact ⟨A, _, c, y.nodes, rfl, hs, hbk⟩
end Go.Proofs.YtminjjdnmpaaoaaGreatDoor
