/-
  A list of the caller's own is written over: halyardlaw03.over, walked; two lists held against each other.
-/
import Derived.Test.YtghihopmiagcpaaGreatDoorFoldW
import Derived.Test.YtghihopmiagcpaaGreatDoorFoldR
import Derived.Test.YtghihopmiagcpaaGreatDoorFoldL
import Derived.Test.YtghihopmiagcpaaGreatDoorKnown
set_option autoImplicit false
set_option relaxedAutoImplicit false
set_option linter.unusedVariables false
set_option linter.unusedSimpArgs false
namespace Go.Proofs.YtghihopmiagcpaaGreatDoor
open Go.Rows Go.RowKit Go.Shelf Go.Sort

theorem row_cell {W : World} {g o : Nat} {cs : Array Value} {t : TypeId} (h : W.heap[g]? = some (.cells cs t (0, 0))) (ho : o < cs.size) : W.cell? ⟨g, o, none⟩ = some cs[o] ∧ W.frozen? ⟨g, o, none⟩ = false := by
  refine ⟨?_, by simp [World.frozen?, h]⟩
  have := cell_of_row W g o cs t (0, 0) h
  rw [this]; exact Array.getElem?_eq_getElem ho
/-- a span's cells set -/
theorem heap_set6 {W : World} {g o : Nat} {cs : Array Value} {t : TypeId} (h : W.heap[g]? = some (.cells cs t (0, 0))) (a0 a1 a2 a3 a4 a5 : Value) :
    ∃ cs', ((((((W.setCell ⟨g, o, none⟩ a0).setCell ⟨g, o + 1, none⟩ a1).setCell ⟨g, o + 2, none⟩ a2).setCell ⟨g, o + 3, none⟩ a3).setCell ⟨g, o + 4, none⟩ a4).setCell ⟨g, o + 5, none⟩ a5).heap[g]? = some (.cells cs' t (0, 0)) ∧ cs'.size = cs.size :=
  ⟨_, heap_set1 (heap_set1 (heap_set1 (heap_set1 (heap_set1 (heap_set1 h a0) a1) a2) a3) a4) a5, by simp⟩

set_option maxHeartbeats 2000000 in
set_option maxRecDepth 100000 in
theorem over_any (A : Option Addr) (n c : Nat) (l : List Spn) (w : World) (base : Nat) (hown : Own rSpn w base 47 (.slice A n c) l (fun _ => False)) :
    Calls Tryz.prog 31 #[.slice A n c] w fun e w' => e = .returned (.tuple #[]) ∧ Turn (fun j => (Value.slice A n c).ownBlock = some j) w w' := by
  obtain ⟨_, xs, ⟨_, h1⟩, _⟩ := hown
  rcases h1 with ⟨hv, _⟩ | ⟨g, cap, cur, hv, hb, hg, hnc, hcm, hcs, _⟩
  · simp only [Value.slice.injEq] at hv
    obtain ⟨rfl, rfl, rfl⟩ := hv
    go_enter Tryz.func31, Tryz.ntmps31
    go_wp2_with fail
    go_loopw [2] (fun i wr => i = .int .i64 0 ∧ Hid (Turn (fun j => (Value.slice none 0 0).ownBlock = some j) w wr)) (fun i _ => 0)
    case atStart => exact ⟨rfl, Turn.refl _ _⟩
    case round =>
      obtain ⟨rfl, HB⟩ := hrel
      go_wp2_with fail
      go_end0
      exact ⟨rfl, HB.out⟩
  · simp only [Value.slice.injEq] at hv
    obtain ⟨rfl, hn, rfl⟩ := hv
    rw [← hn] at hnc
    unfold maxLen at hcm
    have Hn := Lib.hid hn
    clear hn
    go_enter Tryz.func31, Tryz.ntmps31
    go_wp2_with fail
    go_loopw [2] (fun i wr => ∃ (k : Nat) (cs : Array Value), k ≤ n ∧ i = .int .i64 k ∧ Hid (wr.heap[g]? = some (.cells cs 47 (0, 0))) ∧ cs.size = c * 6 ∧ Hid (Turn (fun j => (Value.slice (some ⟨g, 0, none⟩) n c).ownBlock = some j) w wr)) (fun i _ => n - (intOf i).toNat)
    case atStart => exact ⟨0, cur, Nat.zero_le _, rfl, hg, hcs, Turn.refl _ _⟩
    case round =>
      clear hg hcs
      obtain ⟨k, cs, hk, rfl, Hg, hcz, HB⟩ := hrel
      by_cases hlt : k < n
      · have hkI : (k : Int) < (n : Int) := by omega
        have hk0 : (0 : Int) ≤ (k : Int) := by omega
        have hlim : k * 6 + 5 < cs.size := by omega
        obtain ⟨c0, f0⟩ := row_cell (o := k * 6) Hg.out (by omega)
        obtain ⟨c1, f1⟩ := row_cell (o := k * 6 + 1) Hg.out (by omega)
        obtain ⟨c2, f2⟩ := row_cell (o := k * 6 + 2) Hg.out (by omega)
        obtain ⟨c3, f3⟩ := row_cell (o := k * 6 + 3) Hg.out (by omega)
        obtain ⟨c4, f4⟩ := row_cell (o := k * 6 + 4) Hg.out (by omega)
        obtain ⟨c5, f5⟩ := row_cell (o := k * 6 + 5) Hg.out (by omega)
        generalize cs[k * 6] = y0 at *
        generalize cs[k * 6 + 1] = y1 at *
        generalize cs[k * 6 + 2] = y2 at *
        generalize cs[k * 6 + 3] = y3 at *
        generalize cs[k * 6 + 4] = y4 at *
        generalize cs[k * 6 + 5] = y5 at *
        obtain ⟨cs', h6, hz6⟩ := heap_set6 (o := k * 6) Hg.out (.int .i64 (-1)) (.int .i64 0) (.int .i64 0) (.int .i64 0) (.int .i64 0) (.int .i64 0)
        have H6 := Lib.hid h6
        clear h6
        have hX : ∀ (W : World) (o : Nat) (v : Value), Turn (fun j => (Value.slice (some ⟨g, 0, none⟩) n c).ownBlock = some j) W (W.setCell ⟨g, o, none⟩ v) := fun W o v => Turn.setAt W (show (Value.slice (some ⟨g, 0, none⟩) n c).ownBlock = some g from rfl) o v
        have HX := Lib.hid hX
        clear hX
        go_wp2_with fail
        go_roundw
        case rel => exact ⟨k + 1, cs', by omega, by go_num, H6, by omega, (((((HB.out.trans (HX.out _ _ _)).trans (HX.out _ _ _)).trans (HX.out _ _ _)).trans (HX.out _ _ _)).trans (HX.out _ _ _)).trans (HX.out _ _ _)⟩
        case measure => simp [intOf]; omega
      · have hkI : ¬ (k : Int) < (n : Int) := by omega
        go_wp2_with fail
        go_end0
        exact ⟨rfl, HB.out⟩
/-- two lists that are the same are told so -/
theorem same_yes (A B : Option Addr) (n m c d : Nat) (l : List Spn) (w : World) (S T : Nat → Prop) (hx : SlV rSpn w S l (.slice A n c)) (hy : SlV rSpn w T l (.slice B m d)) :
    Calls Tryz.prog 19 #[.slice A n c, .slice B m d] w fun e w' => e = .returned (.bool true) ∧ Below w.heap.size w w' := by
  have := same3_any A B n m c d l l w S T hx hy
  rw [eqB_true rfl] at this
  exact this
end Go.Proofs.YtghihopmiagcpaaGreatDoor
