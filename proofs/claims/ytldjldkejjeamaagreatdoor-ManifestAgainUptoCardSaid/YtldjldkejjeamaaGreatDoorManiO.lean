/-
  Manifests as data, and opened. (Printed by gen_data.py.)
-/
import Derived.Test.YtldjldkejjeamaaGreatDoorDataO
import Derived.KernelRfl
namespace Go.Proofs.YtldjldkejjeamaaGreatDoor
open Go.ChangeShapes Go.WideShapes Go.ChangeAt Go.RowKit
set_option linter.unusedVariables false
set_option linter.unusedSimpArgs false

structure Mani where
  deps : List Dep
  dev : List Dep
  opts : List Dep
  over : List Dep
def rMani : Rp Mani where
  size := 4
  holds := fun w S x cs => ∃ s0 s1 s2 s3, cs = [s0, s1, s2, s3] ∧ SlV rDep w S x.deps s0 ∧ SlV rDep w S x.dev s1 ∧ SlV rDep w S x.opts s2 ∧ SlV rDep w S x.over s3
  len := fun ⟨s0, s1, s2, s3, h, c0, c1, c2, c3⟩ => by rw [h]; rfl
  one := fun ⟨s0, s1, s2, s3, h, c0, c1, c2, c3⟩ => by obtain ⟨_, _, rfl, _⟩ := c0.val; obtain ⟨_, _, rfl, _⟩ := c1.val; obtain ⟨_, _, rfl, _⟩ := c2.val; obtain ⟨_, _, rfl, _⟩ := c3.val; rw [h]; simp [Value.oneCell']
  mono := fun ⟨s0, s1, s2, s3, h, c0, c1, c2, c3⟩ hk => ⟨s0, s1, s2, s3, h, (rSlice rDep).mono c0 hk, (rSlice rDep).mono c1 hk, (rSlice rDep).mono c2 hk, (rSlice rDep).mono c3 hk⟩

def bkMani (x : Mani) : Nat := 1 + bkL bkDep x.deps + bkL bkDep x.dev + bkL bkDep x.opts + bkL bkDep x.over
set_option maxRecDepth 100000 in
theorem opensB_Mani : OpensB Tryz.prog 47 rMani bkMani := by
  intro H enc w base fuel cs x h
  obtain ⟨xs, n, rfl, rfl, hlen, hxl, hf⟩ := DataW.trod_struct Tryz.underlying47 h
  rw [show Tryz.prog.cellsOf 47 = 4 from by kernel_rfl] at hlen
  match cs, hlen with
  | [c0, c1, c2, c3], _ =>
    have k0 : Tryz.prog.cellsOf 24 = 1 := by kernel_rfl
    have f0 := hf 0 _ rfl
    have f1 := hf 1 _ rfl
    have f2 := hf 2 _ rfl
    have f3 := hf 3 _ rfl
    match xs, hxl with
    | [x0, x1, x2, x3], _ =>
      simp [k0] at f0 f1 f2 f3
      obtain ⟨y0, g0, b0⟩ := opensB_slice (e := 38) Tryz.underlying24 (r := rDep) (by kernel_rfl) (by decide) opensB_Dep H enc w base n [c0] x0 f0
      obtain ⟨y1, g1, b1⟩ := opensB_slice (e := 38) Tryz.underlying24 (r := rDep) (by kernel_rfl) (by decide) opensB_Dep H enc w base n [c1] x1 f1
      obtain ⟨y2, g2, b2⟩ := opensB_slice (e := 38) Tryz.underlying24 (r := rDep) (by kernel_rfl) (by decide) opensB_Dep H enc w base n [c2] x2 f2
      obtain ⟨y3, g3, b3⟩ := opensB_slice (e := 38) Tryz.underlying24 (r := rDep) (by kernel_rfl) (by decide) opensB_Dep H enc w base n [c3] x3 f3
      refine ⟨⟨y0, y1, y2, y3⟩, ⟨_, _, _, _, rfl, g0, g1, g2, g3⟩, ?_⟩
      simp only [bkMani, Rows.uptoBulk, Rows.uptoBulkAll, List.map_cons, List.map_nil] at *
      omega
end Go.Proofs.YtldjldkejjeamaaGreatDoor
