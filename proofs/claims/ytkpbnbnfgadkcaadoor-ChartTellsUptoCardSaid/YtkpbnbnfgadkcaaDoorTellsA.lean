/-
  A drawing's text: the program's Text (a Builder) and the document's: what they tell.
-/
import Derived.Test.YtkpbnbnfgadkcaaDoorChartE
import Derived.Test.YtkpbnbnfgadkcaaDoorRefA
import Derived.Test.YtkpbnbnfgadkcaaDoorText
import Derived.Test.YtkpbnbnfgadkcaaDoorDigits
import Derived.Test.YtkpbnbnfgadkcaaDoorIdxStr
import Derived.Test.YtkpbnbnfgadkcaaDoorQuietB
import Derived.Test.YtkpbnbnfgadkcaaDoorLaid
import Derived.Deep.RegionHeld3
import Derived.Lib.AppendIntMem
set_option autoImplicit false
set_option relaxedAutoImplicit false
set_option linter.unusedVariables false
set_option linter.unusedSimpArgs false
namespace Go.Proofs.YtkpbnbnfgadkcaaDoor
open Go.Rows Go.RowKit Go.Shelf Go.Sort

def lineB (s : Spot) : ByteArray := ((((itoaB s.x ++ ⟨#[32]⟩) ++ itoaB s.y) ++ ⟨#[32]⟩) ++ textB s.path) ++ ⟨#[10]⟩
def linesB : List Spot → List UInt8
  | [] => []
  | s :: l => (lineB s).data.toList ++ linesB l
theorem linesB_append (a b : List Spot) : linesB (a ++ b) = linesB a ++ linesB b := by
  induction a with
  | nil => rfl
  | cons s t ih => rw [List.cons_append, linesB, ih, linesB, List.append_assoc]
theorem linesB_take {l : List Spot} {k : Nat} (h : k < l.length) : linesB (l.take (k + 1)) = linesB (l.take k) ++ (lineB l[k]).data.toList := by
  rw [List.take_succ_eq_append_getElem h, linesB_append]
  simp [linesB]
def pathOk (s : Spot) : Bool := s.path.all nameB
def tellR (l : List Spot) : Option ByteArray := if mayB l && l.all pathOk then some ⟨(linesB l).toArray⟩ else none

theorem itoaB_size {n : Int} (h : n.natAbs ≤ 1099511627776) : (itoaB n).size ≤ 109951162780 := by
  by_cases hn : n < 0
  · rw [itoaB_neg hn, ByteArray.size_append]
    have := decB_size2 n.natAbs
    have h1 : (⟨#[45]⟩ : ByteArray).size = 1 := rfl
    rw [h1]; omega
  · rw [itoaB_pos hn]
    have := decB_size2 n.toNat
    omega
theorem textB_size {l : List ByteArray} (h : l.all nameB = true) : (textB l).size ≤ 25 * l.length + 1 := by
  unfold textB
  split
  · show 1 ≤ _; omega
  · have := joined_len h
    simp [ByteArray.size, h]
    omega
theorem size_one (b : UInt8) : (⟨#[b]⟩ : ByteArray).size = 1 := rfl
theorem lineB_size {s : Spot} (hx : s.x.natAbs ≤ 1099511627776) (hy : s.y.natAbs ≤ 1099511627776) (hp : pathOk s = true) (hlen : s.path.length ≤ 1048576) : (lineB s).size ≤ 300000000000 := by
  unfold lineB
  simp only [ByteArray.size_append, size_one]
  have h1 := itoaB_size hx
  have h2 := itoaB_size hy
  have h3 := textB_size hp
  omega
theorem linesB_len {l : List Spot} (hf : ∀ s ∈ l, s.x.natAbs ≤ 1099511627776 ∧ s.y.natAbs ≤ 1099511627776) (hp : l.all pathOk = true) (hlen : ∀ s ∈ l, s.path.length ≤ 1048576) : (linesB l).length ≤ 300000000000 * l.length := by
  induction l with
  | nil => exact Nat.le_refl _
  | cons s t ih =>
    rw [List.all_cons, Bool.and_eq_true] at hp
    have h1 := lineB_size (hf s (by simp)).1 (hf s (by simp)).2 hp.1 (hlen s (by simp))
    have h2 := ih (fun x hx => hf x (by simp [hx])) hp.2 (fun x hx => hlen x (by simp [hx]))
    rw [size_data] at h1
    rw [linesB, List.length_append, List.length_cons]
    omega

theorem itoa_any (n : Int) (hn : I64 n) (W : World) (ht : Tab W) : Calls Tryd.prog 19 #[.int .i64 n] W fun e w' => e = .returned (.string (itoaB n)) ∧ Below W.heap.size W w' :=
  (Tryd.strconv_Itoa n hn.1 hn.2 W ht).mono fun e w' ⟨he, k, os, hw⟩ => ⟨he, by rw [hw]; exact Lib.below_grow _ _ (Nat.le_refl _) _ _⟩

theorem enters_text1 : Enters Tryd.prog 16 := enters_of Tryd.func16 (by kernel_rfl) rfl
theorem text1_any (W : World) (s : ByteArray) (hs : s.size ≤ maxLen) : Calls Tryd.prog 16 (#[.string s] ++ #[]) W fun e W' => e = .returned (.bool (!nameB s)) ∧ Below W.heap.size W W' := by
  have Hc := Lib.hid (scanName_any s hs W)
  generalize nameB s = r at *
  go_enter Tryd.func16, Tryd.ntmps16
  go_wp2_with fail
  refine Hc.out.mono ?_
  rintro e w1 ⟨rfl, hb2⟩
  go_wp2_with fail
  go_ret
  exact ⟨rfl, hb2⟩
theorem all_not_any (l : List ByteArray) : (l.any fun s => !nameB s) = !l.all nameB := by
  rw [List.all_eq_not_any_not, Bool.not_not]
end Go.Proofs.YtkpbnbnfgadkcaaDoor
