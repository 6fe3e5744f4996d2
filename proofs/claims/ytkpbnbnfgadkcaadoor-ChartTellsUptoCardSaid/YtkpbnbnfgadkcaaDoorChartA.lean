/-
  The chart's points: a spot's point, the closures that turn one, quarters, what may be; over whole numbers.
-/
import Derived.Test.YtkpbnbnfgadkcaaDoorSpot
import Derived.Test.YtkpbnbnfgadkcaaDoorCx
import Derived.Deep.DeepFit
namespace Go.Proofs.YtkpbnbnfgadkcaaDoor
open Go.RowKit
set_option linter.unusedVariables false
set_option linter.unusedSimpArgs false

theorem point_any (p : Value) (x y : Int) (w : World) :
    Calls Tryd.prog 14 #[.agg #[p, .int .i64 x, .int .i64 y]] w fun e w' => e = .returned (.complex .f64 (floatOfInt .f64 x) (floatOfInt .f64 y)) ∧ Below w.heap.size w w' := by
  go_enter Tryd.func14, Tryd.ntmps14
  go_wp2
  go_ret
  exact ⟨rfl, (Below.refl _ _).alloc (Nat.le_refl _) _⟩

/-- what a closure on points must do: F on whole numbers, wherever what it captured lies as it did -/
def OnPoints (w : World) (g : FuncId) (lb : Array Value) (F : Int → Int → Int × Int) : Prop :=
  ∀ (W : World) (re im : Nat) (x y : Int), Below w.heap.size w W → Flt re x → Flt im y → x.natAbs ≤ 1099511627776 → y.natAbs ≤ 1099511627776 →
    Calls Tryd.prog g (#[.complex .f64 re im] ++ lb) W fun e W' => ∃ re' im', e = .returned (.complex .f64 re' im') ∧ Flt re' (F x y).1 ∧ Flt im' (F x y).2 ∧ W = W'

theorem twist1_on (w : World) (b o : Nat) (c d : Nat) (u v : Int) (hc : w.cell? ⟨b, o, none⟩ = some (.complex .f64 c d)) (hu : Flt c u) (hv : Flt d v) (hu' : u.natAbs ≤ 1024) (hv' : v.natAbs ≤ 1024) :
    OnPoints w 36 #[.pointer (some ⟨b, o, none⟩)] (fun x y => (x * u - y * v, x * v + y * u)) := by
  intro W re im x y hb hx hy hx' hy'
  obtain ⟨e, f, he, h1, h2⟩ := cmul_small hx hy hu hv hx' hy' hu' hv'
  have hcW : W.cell? ⟨b, o, none⟩ = some (.complex .f64 c d) := (hb.cell (p := ⟨b, o, none⟩) (cell_lt hc)).trans hc
  have hm := run_complex_mul (P := Tryd.prog) W 46 re im c d e f he
  clear hc hb
  simp only [List.push_toArray, Array.append_eq_append]
  show Calls _ _ #[_, _] _ _
  go_enter Tryd.func36, Tryd.ntmps36
  go_wp2
  go_ret
  exact ⟨e, f, rfl, h1, h2, rfl⟩

theorem turn1_on (w : World) (b o : Nat) (c d : Nat) (u v : Int) (hc : w.cell? ⟨b, o, none⟩ = some (.complex .f64 c d)) (hu : Flt c u) (hv : Flt d v) (hu' : u.natAbs ≤ 1024) (hv' : v.natAbs ≤ 1024) :
    OnPoints w 38 #[.pointer (some ⟨b, o, none⟩)] (fun x y => (x * u - y * v, x * v + y * u)) := by
  intro W re im x y hb hx hy hx' hy'
  obtain ⟨e, f, he, h1, h2⟩ := cmul_small hx hy hu hv hx' hy' hu' hv'
  have hcW : W.cell? ⟨b, o, none⟩ = some (.complex .f64 c d) := (hb.cell (p := ⟨b, o, none⟩) (cell_lt hc)).trans hc
  have hm := run_complex_mul (P := Tryd.prog) W 46 re im c d e f he
  clear hc hb
  show Calls _ _ #[_, _] _ _
  go_enter Tryd.func38, Tryd.ntmps38
  go_wp2
  go_ret
  exact ⟨e, f, rfl, h1, h2, rfl⟩

end Go.Proofs.YtkpbnbnfgadkcaaDoor
