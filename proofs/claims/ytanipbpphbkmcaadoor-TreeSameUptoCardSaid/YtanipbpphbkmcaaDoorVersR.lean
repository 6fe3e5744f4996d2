/-
  The document's Number and Print of a version, walked.
-/
import Derived.Test.YtanipbpphbkmcaaDoorVers
set_option autoImplicit false
set_option relaxedAutoImplicit false
set_option linter.unusedVariables false
set_option linter.unusedSimpArgs false
namespace Go.Proofs.YtanipbpphbkmcaaDoor
open Go.Rows Go.RowKit Go.Shelf Go.Sort

theorem conv2_digit (W : World) (b d : Nat) (hd : d < 10) (h : W.cell? ⟨b, 0, none⟩ = some (.int .u8 (48 + (d : Int)))) :
    (convert 64 9 (.slice (some ⟨b, 0, none⟩) 1 1)).run Tryd.prog W = .ok (.string ⟨#[48 + UInt8.ofNat d]⟩) W := by
  rw [← of48]
  refine run_convert_bytes_back W 64 9 5 ⟨b, 0, none⟩ 1 [UInt8.ofNat (48 + d)] Tryd.underlying64 Tryd.underlying5 Tryd.underlying9 ?_
  intro j hj
  have hj0 : j = 0 := by simp at hj; exact hj
  subst hj0
  show W.cell? ⟨b, 0, none⟩ = _
  rw [h]
  have : (UInt8.ofNat (48 + d)).toNat = 48 + d := by simp; omega
  simp only [List.getElem_cons_zero, this]
  rfl
theorem conv2_after (w W : World) (d : Nat) (hd : d < 10) (h : Below (w.alloc (.cells #[.int .u8 (48 + (d : Int))] 5)).drew.heap.size (w.alloc (.cells #[.int .u8 (48 + (d : Int))] 5)).drew W) :
    (convert 64 9 (.slice (some ⟨w.heap.size, 0, none⟩) 1 1)).run Tryd.prog W = .ok (.string ⟨#[48 + UInt8.ofNat d]⟩) W :=
  conv2_digit W _ d hd (below_cell h (by simp) (by simp))
theorem conv2_here (w : World) (d : Nat) (hd : d < 10) :
    (convert 64 9 (.slice (some ⟨w.heap.size, 0, none⟩) 1 1)).run Tryd.prog (w.alloc (.cells #[.int .u8 (48 + (d : Int))] 5)) = .ok (.string ⟨#[48 + UInt8.ofNat d]⟩) (w.alloc (.cells #[.int .u8 (48 + (d : Int))] 5)) :=
  conv2_digit _ _ d hd (by simp)
theorem conv2_here_drew (w : World) (d : Nat) (hd : d < 10) :
    (convert 64 9 (.slice (some ⟨w.heap.size, 0, none⟩) 1 1)).run Tryd.prog (w.alloc (.cells #[.int .u8 (48 + (d : Int))] 5)).drew = .ok (.string ⟨#[48 + UInt8.ofNat d]⟩) (w.alloc (.cells #[.int .u8 (48 + (d : Int))] 5)).drew :=
  conv2_digit _ _ d hd (by simp)

end Go.Proofs.YtanipbpphbkmcaaDoor
