/-
  The tree with one package that the law looks at.
-/
import Derived.Test.YtkpbpnecmfadlaaGreatDoorTreeSame
import Derived.Test.YtkpbpnecmfadlaaGreatDoorCheck
set_option autoImplicit false
set_option relaxedAutoImplicit false
set_option linter.unusedVariables false
set_option linter.unusedSimpArgs false
namespace Go.Proofs.YtkpbpnecmfadlaaGreatDoor
open Go.Rows Go.RowKit Go.Shelf Go.Sort

def aB : ByteArray := ⟨#[97]⟩
def zeroDir : Dir := ⟨[], zeroPack, 0⟩
def aDir : Dir := ⟨[aB], ⟨aB, ⟨1, 0, 0⟩, [], [], []⟩, 1⟩

theorem find_a : findI [zeroDir, aDir] [aB] = 1 := by
  have h1 : eqB zeroDir.path [aB] = false := eqB_false (by simp [zeroDir])
  have h2 : eqB aDir.path [aB] = true := eqB_true rfl
  unfold findI firstI
  rw [firstGo, h1, firstGo, h2]; rfl
theorem above_a : aboveI [zeroDir, aDir] aDir.path = 0 := by
  have h1 : eqB zeroDir.path [] = true := eqB_true rfl
  unfold aboveI
  show findI [zeroDir, aDir] [] = 0
  unfold findI firstI
  rw [firstGo, h1]; rfl
theorem text_a : textB [aB] = ⟨#[47, 109, 111, 100, 117, 108, 101, 115, 47, 97]⟩ := by
  unfold textB
  rw [if_neg (by simp), if_pos (by decide +kernel)]
  rfl
theorem text_ab : textB [aB, ⟨#[98]⟩] = ⟨#[47, 109, 111, 100, 117, 108, 101, 115, 47, 97, 47, 109, 111, 100, 117, 108, 101, 115, 47, 98]⟩ := by
  unfold textB
  rw [if_neg (by simp), if_pos (by decide +kernel)]
  rfl
theorem pack_a : packB aDir.pack = true := by
  have h1 : nameB aB = true := by decide +kernel
  have h2 : verB 1 0 0 = true := by decide +kernel
  have h3 : listB ([] : List Dep) = true := by decide +kernel
  have h4 : nodupB (allNames [[], [], []]) = true := nodupB_true (by simp [allNames, namesOf])
  have h5 : (packText aDir.pack).size ≤ 4096 := by
    have := packHead_le (p := aDir.pack) (by decide)
    unfold packText
    simp only [ByteArray.size_append]
    have e1 : (linesD needsW aDir.pack.deps).size = 0 := rfl
    have e2 : (linesD besideW aDir.pack.peers).size = 0 := rfl
    have e3 : (linesD likesW aDir.pack.opts).size = 0 := rfl
    omega
  unfold packB
  show (nameB aB && (verB 1 0 0 && (listB ([] : List Dep) && (listB ([] : List Dep) && (listB ([] : List Dep) && (nodupB (allNames [[], [], []]) && decide ((packText aDir.pack).size ≤ 4096))))))) = true
  rw [h1, h2, h3, h4, decide_eq_true h5]; rfl
theorem check_small : checkE [zeroDir, aDir] = 0 := by
  have h0 : rootB zeroDir = true := by unfold rootB; rw [show zeroDir.pack = zeroPack from rfl, eqB_true rfl]; rfl
  have h1 : standsB [zeroDir, aDir] aDir 1 = true := by
    unfold standsB
    rw [above_a, pack_a, show aDir.path = [aB] from rfl, text_a, find_a]
    decide +kernel
  unfold checkE
  rw [if_neg (by simp)]
  simp only [okGo, h0, h1]
  rfl
theorem check_none : checkE [] = 42 := by unfold checkE; rw [if_pos (.inl (by simp))]

theorem zero_holds (w : World) (S : Nat → Prop) : rDir.holds w S zeroDir [.slice none 0 0, .string ⟨#[]⟩, .int .i64 0, .int .i64 0, .int .i64 0, .slice none 0 0, .slice none 0 0, .slice none 0 0, .int .i64 0] :=
  ⟨.slice none 0 0, .slice none 0 0, .slice none 0 0, .slice none 0 0, rfl, SlV.nil_ _ _ _, Nat.zero_le _, by unfold I64; decide, by unfold I64; decide, by unfold I64; decide, SlV.nil_ _ _ _, SlV.nil_ _ _ _, SlV.nil_ _ _ _, by unfold I64; decide⟩
theorem aDir_holds (w : World) (S : Nat → Prop) (g : Nat) (h : SlV rStr w S [aB] (.slice (some ⟨g, 0, none⟩) 1 1)) : rDir.holds w S aDir [.slice (some ⟨g, 0, none⟩) 1 1, .string ⟨#[97]⟩, .int .i64 1, .int .i64 0, .int .i64 0, .slice none 0 0, .slice none 0 0, .slice none 0 0, .int .i64 1] :=
  ⟨_, .slice none 0 0, .slice none 0 0, .slice none 0 0, rfl, h, by decide, by unfold I64; decide, by unfold I64; decide, by unfold I64; decide, SlV.nil_ _ _ _, SlV.nil_ _ _ _, SlV.nil_ _ _ _, by unfold I64; decide⟩
theorem size_alloc (w : World) (o : Obj) : (w.alloc o).heap.size = w.heap.size + 1 := by simp [go_sem]

end Go.Proofs.YtkpbpnecmfadlaaGreatDoor
