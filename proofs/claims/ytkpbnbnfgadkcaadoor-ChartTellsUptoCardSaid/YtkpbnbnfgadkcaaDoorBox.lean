/-
  A drawing's frame: the least and the greatest of each part.
-/
import Derived.Test.YtkpbnbnfgadkcaaDoorChartC
namespace Go.Proofs.YtkpbnbnfgadkcaaDoor
open Go.RowKit
set_option linter.unusedVariables false
set_option linter.unusedSimpArgs false

def mn (a b : Int) : Int := if b < a then b else a
def mx (a b : Int) : Int := if b > a then b else a
def lo (g : Spot → Int) : List Spot → Int
  | [] => 0
  | s :: l => l.foldl (fun a t => mn a (g t)) (g s)
def hi (g : Spot → Int) : List Spot → Int
  | [] => 0
  | s :: l => l.foldl (fun a t => mx a (g t)) (g s)
theorem lo_snoc (g : Spot → Int) (l : List Spot) (s : Spot) (h : l ≠ []) : lo g (l ++ [s]) = mn (lo g l) (g s) := by
  cases l with
  | nil => exact absurd rfl h
  | cons t l => simp [lo, List.foldl_append]
theorem hi_snoc (g : Spot → Int) (l : List Spot) (s : Spot) (h : l ≠ []) : hi g (l ++ [s]) = mx (hi g l) (g s) := by
  cases l with
  | nil => exact absurd rfl h
  | cons t l => simp [hi, List.foldl_append]
theorem mn_self (a : Int) : mn a a = a := by simp [mn]
theorem mx_self (a : Int) : mx a a = a := by simp [mx]
/-- the frame -/
def boxV (l : List Spot) : Value := .agg #[.int .i64 (lo (·.x) l), .int .i64 (lo (·.y) l), .int .i64 (hi (·.x) l), .int .i64 (hi (·.y) l)]

/-- how the four numbers go on -/
theorem box_step {l : List Spot} {k : Nat} (h : k < l.length) (hk : k ≠ 0) :
    lo (·.x) (l.take (k + 1)) = mn (lo (·.x) (l.take k)) (l[k]).x ∧ lo (·.y) (l.take (k + 1)) = mn (lo (·.y) (l.take k)) (l[k]).y ∧
    hi (·.x) (l.take (k + 1)) = mx (hi (·.x) (l.take k)) (l[k]).x ∧ hi (·.y) (l.take (k + 1)) = mx (hi (·.y) (l.take k)) (l[k]).y := by
  have hne : l.take k ≠ [] := by
    intro e
    have h1 : (l.take k).length = 0 := by rw [e]; rfl
    rw [List.length_take] at h1
    omega
  rw [List.take_succ_eq_append_getElem h]
  exact ⟨lo_snoc _ _ _ hne, lo_snoc _ _ _ hne, hi_snoc _ _ _ hne, hi_snoc _ _ _ hne⟩
theorem box_first {l : List Spot} (h : 0 < l.length) :
    lo (·.x) (l.take (0 + 1)) = mn (l[0]).x (l[0]).x ∧ lo (·.y) (l.take (0 + 1)) = mn (l[0]).y (l[0]).y ∧ hi (·.x) (l.take (0 + 1)) = mx (l[0]).x (l[0]).x ∧ hi (·.y) (l.take (0 + 1)) = mx (l[0]).y (l[0]).y := by
  rw [List.take_succ_eq_append_getElem h]
  simp [lo, hi, mn_self, mx_self]

/-- a block of four numbers -/
def F4 (w : World) (B : Nat) (a b c d : Int) : Prop :=
  (w.cell? ⟨B, 0, none⟩ = some (.int .i64 a) ∧ w.cell? ⟨B, 1, none⟩ = some (.int .i64 b) ∧ w.cell? ⟨B, 2, none⟩ = some (.int .i64 c) ∧ w.cell? ⟨B, 3, none⟩ = some (.int .i64 d)) ∧
  (w.frozen? ⟨B, 0, none⟩ = false ∧ w.frozen? ⟨B, 1, none⟩ = false ∧ w.frozen? ⟨B, 2, none⟩ = false ∧ w.frozen? ⟨B, 3, none⟩ = false)
theorem F4.set4 {w : World} {B : Nat} {a b c d : Int} (h : F4 w B a b c d) (a' b' c' d' : Int) :
    F4 ((((w.setCell ⟨B, 0, none⟩ (.int .i64 a')).setCell ⟨B, 1, none⟩ (.int .i64 b')).setCell ⟨B, 2, none⟩ (.int .i64 c')).setCell ⟨B, 3, none⟩ (.int .i64 d')) B a' b' c' d' := by
  obtain ⟨⟨d0, d1, d2, d3⟩, g0, g1, g2, g3⟩ := h
  refine ⟨⟨?_, ?_, ?_, ?_⟩, ?_, ?_, ?_, ?_⟩ <;> simp [go_sem, d0, d1, d2, d3, g0, g1, g2, g3]
theorem F4.alloc {w : World} {B : Nat} {a b c d : Int} (h : F4 w B a b c d) (hB : B < w.heap.size) (o : Obj) : F4 (w.alloc o) B a b c d := by
  obtain ⟨⟨d0, d1, d2, d3⟩, g0, g1, g2, g3⟩ := h
  have hh := Below.heap_alloc w o B hB
  exact ⟨⟨(cell_same hh _ _).trans d0, (cell_same hh _ _).trans d1, (cell_same hh _ _).trans d2, (cell_same hh _ _).trans d3⟩, (frozen_same hh _ _).trans g0, (frozen_same hh _ _).trans g1, (frozen_same hh _ _).trans g2, (frozen_same hh _ _).trans g3⟩

set_option maxHeartbeats 1000000 in
theorem box_ok (A : Option Addr) (n c : Nat) (l : List Spot) (w : World) (S : Nat → Prop) (hn63 : n ≤ 9223372036854775807) (hm : mayB l = true) (hl : SlV rSpot w S l (.slice A n c)) :
    Calls Tryd.prog 4 #[.slice A n c] w fun e w' => e = .returned (.tuple #[boxV l, .int .i64 0]) ∧ Below w.heap.size w w' := by
  have hnx := hl.n_eq
  have Hc : Hid (∀ o, Calls Tryd.prog 12 #[.slice A n c] (w.alloc o) fun e w' => e = .returned (.bool true) ∧ Below (w.alloc o).heap.size (w.alloc o) w') := fun o => by
    have := may_any A n c l (w.alloc o) S hn63 (hl.alloc o)
    rwa [hm] at this
  have Hnx := Lib.hid hnx; clear hnx hm
  have hl' := hl.more (S' := fun b => b < w.heap.size) fun b _ hlt => hlt
  clear hl
  go_enter Tryd.func4, Tryd.ntmps4
  go_wp2_with fail
  refine (Hc.out _).mono ?_
  rintro e w1 ⟨rfl, hb1⟩
  have hz1 : w.heap.size < w1.heap.size := by have := hb1.size; simp at this; omega
  have hB1 : Below w.heap.size w w1 := ((Below.refl _ _).alloc (Nat.le_refl _) _).trans (hb1.mono (by simp))
  have e0 := hb1.cell (p := ⟨w.heap.size, 0, none⟩) (by simp)
  have e1 := hb1.cell (p := ⟨w.heap.size, 1, none⟩) (by simp)
  have e2 := hb1.cell (p := ⟨w.heap.size, 2, none⟩) (by simp)
  have e3 := hb1.cell (p := ⟨w.heap.size, 3, none⟩) (by simp)
  have f0 := hb1.frozen (p := ⟨w.heap.size, 0, none⟩) (by simp)
  have f1 := hb1.frozen (p := ⟨w.heap.size, 1, none⟩) (by simp)
  have f2 := hb1.frozen (p := ⟨w.heap.size, 2, none⟩) (by simp)
  have f3 := hb1.frozen (p := ⟨w.heap.size, 3, none⟩) (by simp)
  simp [go_sem] at e0 e1 e2 e3 f0 f1 f2 f3
  clear hb1
  go_wp2_with fail
  go_loopw [13] (fun i wr => ∃ k : Nat, k ≤ n ∧ i = .int .i64 k ∧ F4 wr w1.heap.size (lo (·.x) (l.take k)) (lo (·.y) (l.take k)) (hi (·.x) (l.take k)) (hi (·.y) (l.take k)) ∧ Below w1.heap.size w1 wr ∧ w1.heap.size < wr.heap.size) (fun i _ => n - (intOf i).toNat)
  case atStart => exact ⟨0, Nat.zero_le _, rfl, by refine ⟨⟨?_, ?_, ?_, ?_⟩, ?_, ?_, ?_, ?_⟩ <;> simp [go_sem, lo, hi], (Below.refl _ _).alloc (Nat.le_refl _) _, by simp⟩
  case round =>
    obtain ⟨k, hk, rfl, hF, hbel, hzr⟩ := hrel
    have HF := Lib.hid hF
    obtain ⟨⟨d0, d1, d2, d3⟩, g0, g1, g2, g3⟩ := hF
    have hne : w1.heap.size ≠ wr.heap.size := by omega
    by_cases hlt : k < n
    · have hkx : k < l.length := by have := Hnx.out; omega
      have hlw := (hl'.below hB1 (fun b h => h)).below hbel (fun b hb => by have : b < w.heap.size := hb; omega)
      obtain ⟨b, o, cs, rfl, hSb, hb1, hsp, hcell⟩ := hlw.elem (List.getElem?_eq_getElem hkx)
      obtain ⟨p, rfl, hp, hx, hy⟩ := hsp
      obtain ⟨pA, pc, rfl, _, _⟩ := hp.val
      have hc0 := hcell 0 _ rfl
      have hc1 := hcell 1 _ rfl
      have hc2 := hcell 2 _ rfl
      simp only [rSpot, Nat.add_zero] at hc0 hc1 hc2
      clear hp hx hy hcell hlw
      have hkn : (k : Int) < (n : Int) := by omega
      by_cases hk0 : k = 0
      · have hk0' : ((k : Int) == 0) = true := by simp [hk0]
        have hst : Hid (lo (·.x) (l.take (k + 1)) = mn (l[k]).x (l[k]).x ∧ lo (·.y) (l.take (k + 1)) = mn (l[k]).y (l[k]).y ∧ hi (·.x) (l.take (k + 1)) = mx (l[k]).x (l[k]).x ∧ hi (·.y) (l.take (k + 1)) = mx (l[k]).y (l[k]).y) := by
          subst hk0; exact box_first hkx
        clear hk0
        generalize (l[k]).path.length = pn at *
        generalize (l[k]).x = x at *
        generalize (l[k]).y = y at *
        go_wp2_with fail
        go_roundw
        case rel =>
          refine ⟨k + 1, by omega, by go_num, by rw [hst.out.1, hst.out.2.1, hst.out.2.2.1, hst.out.2.2.2, mn_self, mn_self, mx_self, mx_self]; exact ((HF.out.set4 _ _ _ _).set4 _ _ _ _).alloc (by simpa [World.setCell] using hzr) _, ?_, by simp [World.setCell]; omega⟩
          exact Below.alloc ((((((((hbel.setCell (by simp) _).setCell (by simp) _).setCell (by simp) _).setCell (by simp) _).setCell (by simp) _).setCell (by simp) _).setCell (by simp) _).setCell (by simp) _) (by simp [World.setCell]; omega) _
        case measure => simp [intOf]; omega
      · have hk0' : ((k : Int) == 0) = false := by simp [hk0]
        have hst : Hid _ := box_step hkx hk0
        clear hk0
        generalize (l[k]).path.length = pn at *
        generalize (l[k]).x = x at *
        generalize (l[k]).y = y at *
        go_wp2_with fail
        go_roundw
        case rel =>
          refine ⟨k + 1, by omega, by go_num, by rw [hst.out.1, hst.out.2.1, hst.out.2.2.1, hst.out.2.2.2]; exact (HF.out.set4 _ _ _ _).alloc (by simpa [World.setCell] using hzr) _, ?_, by simp [World.setCell]; omega⟩
          exact Below.alloc ((((hbel.setCell (by simp) _).setCell (by simp) _).setCell (by simp) _).setCell (by simp) _) (by simp [World.setCell]; omega) _
        case measure => simp [intOf]; omega
    · have hkn : k = l.length := by have := Hnx.out; omega
      have Hv : Hid (l.take k = l) := by unfold Hid; rw [hkn, List.take_length]
      rw [Hv.out] at d0 d1 d2 d3
      have E0 := below_cell hbel e0 hz1
      have E1 := below_cell hbel e1 hz1
      have E2 := below_cell hbel e2 hz1
      have E3 := below_cell hbel e3 hz1
      have F0 := (hbel.frozen (p := ⟨w.heap.size, 0, none⟩) hz1).trans f0
      have F1 := (hbel.frozen (p := ⟨w.heap.size, 1, none⟩) hz1).trans f1
      have F2 := (hbel.frozen (p := ⟨w.heap.size, 2, none⟩) hz1).trans f2
      have F3 := (hbel.frozen (p := ⟨w.heap.size, 3, none⟩) hz1).trans f3
      have hB : Below w.heap.size w wr := hB1.trans (hbel.mono hB1.size)
      clear hkn e0 e1 e2 e3 f0 f1 f2 f3 hbel hB1
      go_wp2
      refine bodyPost_ret (v := .tuple #[boxV l, .int .i64 0]) (by simp [results, Tryd.results4, go_sem, boxV, E0, E1, E2, E3]) rfl ⟨rfl, ?_⟩
      exact (((hB.setCell (by simp) _).setCell (by simp) _).setCell (by simp) _).setCell (by simp) _

theorem box_no (A : Option Addr) (n c : Nat) (l : List Spot) (w : World) (S : Nat → Prop) (hn63 : n ≤ 9223372036854775807) (hm : mayB l = false) (hl : SlV rSpot w S l (.slice A n c)) :
    Calls Tryd.prog 4 #[.slice A n c] w fun e w' => e = .returned (.tuple #[.agg #[.int .i64 0, .int .i64 0, .int .i64 0, .int .i64 0], .int .i64 1]) ∧ Below w.heap.size w w' := by
  have Hc : Hid (∀ o, Calls Tryd.prog 12 #[.slice A n c] (w.alloc o) fun e w' => e = .returned (.bool false) ∧ Below (w.alloc o).heap.size (w.alloc o) w') := fun o => by
    have := may_any A n c l (w.alloc o) S hn63 (hl.alloc o)
    rwa [hm] at this
  clear hl hm
  go_enter Tryd.func4, Tryd.ntmps4
  go_wp2_with fail
  refine (Hc.out _).mono ?_
  rintro e w1 ⟨rfl, hb1⟩
  have hz1 : w.heap.size < w1.heap.size := by have := hb1.size; simp at this; omega
  have hB1 : Below w.heap.size w w1 := ((Below.refl _ _).alloc (Nat.le_refl _) _).trans (hb1.mono (by simp))
  have e0 := hb1.cell (p := ⟨w.heap.size, 0, none⟩) (by simp)
  have e1 := hb1.cell (p := ⟨w.heap.size, 1, none⟩) (by simp)
  have e2 := hb1.cell (p := ⟨w.heap.size, 2, none⟩) (by simp)
  have e3 := hb1.cell (p := ⟨w.heap.size, 3, none⟩) (by simp)
  have f0 := hb1.frozen (p := ⟨w.heap.size, 0, none⟩) (by simp)
  have f1 := hb1.frozen (p := ⟨w.heap.size, 1, none⟩) (by simp)
  have f2 := hb1.frozen (p := ⟨w.heap.size, 2, none⟩) (by simp)
  have f3 := hb1.frozen (p := ⟨w.heap.size, 3, none⟩) (by simp)
  simp [go_sem] at e0 e1 e2 e3 f0 f1 f2 f3
  clear hb1
  go_wp2
  refine bodyPost_ret (v := .tuple #[.agg #[.int .i64 0, .int .i64 0, .int .i64 0, .int .i64 0], .int .i64 1]) (by simp [results, Tryd.results4, go_sem, e0, e1, e2, e3]) rfl ⟨rfl, ?_⟩
  exact (((hB1.setCell (by simp) _).setCell (by simp) _).setCell (by simp) _).setCell (by simp) _
end Go.Proofs.YtkpbnbnfgadkcaaDoor
