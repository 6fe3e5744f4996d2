/-
  The chart's points: a spot's point, the closures that turn one, quarters, what may be; over whole numbers.
-/
import Derived.Test.YtkpbnbnfgadkcaaSpot
import Derived.Test.YtkpbnbnfgadkcaaCx
import Derived.Deep.DeepFit
namespace Go.Proofs.Ytkpbnbnfgadkcaa
open Go.RowKit
set_option linter.unusedVariables false
set_option linter.unusedSimpArgs false

theorem point_any (p : Value) (x y : Int) (w : World) :
    Calls Try.prog 27 #[.agg #[p, .int .i64 x, .int .i64 y]] w fun e w' => e = .returned (.complex .f64 (floatOfInt .f64 x) (floatOfInt .f64 y)) ∧ Below w.heap.size w w' := by
  go_enter Try.func27, Try.ntmps27
  go_wp2
  go_ret
  exact ⟨rfl, (Below.refl _ _).alloc (Nat.le_refl _) _⟩

/-- what a closure on points must do: F on whole numbers, wherever what it captured lies as it did -/
def OnPoints (w : World) (g : FuncId) (lb : Array Value) (F : Int → Int → Int × Int) : Prop :=
  ∀ (W : World) (re im : Nat) (x y : Int), Below w.heap.size w W → Flt re x → Flt im y → x.natAbs ≤ 1099511627776 → y.natAbs ≤ 1099511627776 →
    Calls Try.prog g (#[.complex .f64 re im] ++ lb) W fun e W' => ∃ re' im', e = .returned (.complex .f64 re' im') ∧ Flt re' (F x y).1 ∧ Flt im' (F x y).2 ∧ W = W'

theorem twist1_on (w : World) (b o : Nat) (c d : Nat) (u v : Int) (hc : w.cell? ⟨b, o, none⟩ = some (.complex .f64 c d)) (hu : Flt c u) (hv : Flt d v) (hu' : u.natAbs ≤ 1024) (hv' : v.natAbs ≤ 1024) :
    OnPoints w 21 #[.pointer (some ⟨b, o, none⟩)] (fun x y => (x * u - y * v, x * v + y * u)) := by
  intro W re im x y hb hx hy hx' hy'
  obtain ⟨e, f, he, h1, h2⟩ := cmul_small hx hy hu hv hx' hy' hu' hv'
  have hcW : W.cell? ⟨b, o, none⟩ = some (.complex .f64 c d) := (hb.cell (p := ⟨b, o, none⟩) (cell_lt hc)).trans hc
  have hm := run_complex_mul (P := Try.prog) W 51 re im c d e f he
  clear hc hb
  simp only [List.push_toArray, Array.append_eq_append]
  show Calls _ _ #[_, _] _ _
  go_enter Try.func21, Try.ntmps21
  go_wp2
  go_ret
  exact ⟨e, f, rfl, h1, h2, rfl⟩

theorem turn1_on (w : World) (b o : Nat) (c d : Nat) (u v : Int) (hc : w.cell? ⟨b, o, none⟩ = some (.complex .f64 c d)) (hu : Flt c u) (hv : Flt d v) (hu' : u.natAbs ≤ 1024) (hv' : v.natAbs ≤ 1024) :
    OnPoints w 24 #[.pointer (some ⟨b, o, none⟩)] (fun x y => (x * u - y * v, x * v + y * u)) := by
  intro W re im x y hb hx hy hx' hy'
  obtain ⟨e, f, he, h1, h2⟩ := cmul_small hx hy hu hv hx' hy' hu' hv'
  have hcW : W.cell? ⟨b, o, none⟩ = some (.complex .f64 c d) := (hb.cell (p := ⟨b, o, none⟩) (cell_lt hc)).trans hc
  have hm := run_complex_mul (P := Try.prog) W 51 re im c d e f he
  clear hc hb
  show Calls _ _ #[_, _] _ _
  go_enter Try.func24, Try.ntmps24
  go_wp2
  go_ret
  exact ⟨e, f, rfl, h1, h2, rfl⟩

theorem flip1_on (w : World) : OnPoints w 26 #[] (fun x y => (x, -y)) := by
  intro W re im x y hb hx hy hx' hy'
  clear hb
  have hn : Op.unary .neg (.float .f64 im) = pure (.float .f64 (Op.negFloat .f64 im)) := rfl
  show Calls _ _ #[_] _ _
  go_enter Try.func26, Try.ntmps26
  go_wp2
  go_ret
  exact ⟨_, _, rfl, hx, flt_neg hy, rfl⟩
end Go.Proofs.Ytkpbnbnfgadkcaa
