/-
  Spans, dependencies and packages held against one another: both sides answer whether they are one.
-/
import Derived.Test.YtghihopmiagcpaaGreatDoorVers
set_option autoImplicit false
set_option relaxedAutoImplicit false
set_option linter.unusedVariables false
set_option linter.unusedSimpArgs false
namespace Go.Proofs.YtghihopmiagcpaaGreatDoor
open Go.Rows Go.RowKit Go.Shelf Go.Sort

/-- are two things one? -/
noncomputable def eqB {α : Type} (x y : α) : Bool := @decide (x = y) (Classical.propDecidable _)
theorem eqB_true {α : Type} {x y : α} (h : x = y) : eqB x y = true := by unfold eqB; exact @decide_eq_true _ (Classical.propDecidable _) h
theorem eqB_false {α : Type} {x y : α} (h : x ≠ y) : eqB x y = false := by unfold eqB; exact @decide_eq_false _ (Classical.propDecidable _) h
theorem eqB_of {α : Type} {x y : α} (h : eqB x y = true) : x = y := by
  by_cases e : x = y
  · exact e
  · rw [eqB_false e] at h; cases h
theorem eqB_iff {α : Type} {x y : α} : eqB x y = true ↔ x = y := ⟨eqB_of, eqB_true⟩

theorem equalIn_ver (dd : Nat) (w : World) (a b c d e f : Int) : (Op.equalIn (dd + 2) 24 (.agg #[.int .i64 a, .int .i64 b, .int .i64 c]) (.agg #[.int .i64 d, .int .i64 e, .int .i64 f])).run Tryz.prog w = .ok (decide (a = d ∧ b = e ∧ c = f)) w := by
  have hu' := Tryz.underlying24
  have hu : Tryz.prog.underlying 24 = some (.struct (Tryz.prog.fieldsOf 24)) := by kernel_rfl
  have hs : Tryz.prog.stoodInHeld 24 = false := by kernel_rfl
  have h3 : ∀ w, (isAgg 3).run Tryz.prog w = .ok false w := fun _ => by kernel_rfl
  rw [show dd + 2 = (dd + 1) + 1 from rfl, run_equalIn_agg _ _ _ _ _ hu hs]
  have he : ∀ (x y : Int) (w : World), (Op.equalIn (dd + 1) 3 (.int .i64 x) (.int .i64 y)).run Tryz.prog w = .ok (x == y) w := fun x y w => by
    rw [run_equalIn_int (k' := .i64) (h := Tryz.underlying3)]
  generalize dd + 1 = D at *
  by_cases h1 : a = d
  · by_cases h2 : b = e
    · by_cases h4 : c = f
      · simp [Program.fieldsOf, hu', Op.eqFields, part, h3, he, h1, h2, h4]
      · simp [Program.fieldsOf, hu', Op.eqFields, part, h3, he, h1, h2, h4]
    · simp [Program.fieldsOf, hu', Op.eqFields, part, h3, he, h1, h2]
  · simp [Program.fieldsOf, hu', Op.eqFields, part, h3, he, h1]

theorem eql_ver (w : World) (a b c d e f : Int) : (binOp .eql 24 (.agg #[.int .i64 a, .int .i64 b, .int .i64 c]) (.agg #[.int .i64 d, .int .i64 e, .int .i64 f])).run Tryz.prog w = .ok (.bool (decide (a = d ∧ b = e ∧ c = f))) w := by
  rw [run_eql_struct, show (10000 : Nat) = 9998 + 2 from rfl, equalIn_ver]; rfl
theorem neq_ver (w : World) (a b c d e f : Int) : (binOp .neq 24 (.agg #[.int .i64 a, .int .i64 b, .int .i64 c]) (.agg #[.int .i64 d, .int .i64 e, .int .i64 f])).run Tryz.prog w = .ok (.bool (!decide (a = d ∧ b = e ∧ c = f))) w := by
  rw [run_neq_struct, show (10000 : Nat) = 9998 + 2 from rfl, equalIn_ver]; rfl

theorem neq_spn (w : World) (a1 a2 a3 a4 a5 a6 b1 b2 b3 b4 b5 b6 : Int) :
    (binOp .neq 47 (.agg #[.int .i64 a1, .int .i64 a2, .int .i64 a3, .int .i64 a4, .int .i64 a5, .int .i64 a6]) (.agg #[.int .i64 b1, .int .i64 b2, .int .i64 b3, .int .i64 b4, .int .i64 b5, .int .i64 b6])).run Tryz.prog w =
      .ok (.bool (!decide ((a1 = b1 ∧ a2 = b2 ∧ a3 = b3) ∧ a4 = b4 ∧ a5 = b5 ∧ a6 = b6))) w := by
  have hu' := Tryz.underlying47
  have hu : Tryz.prog.underlying 47 = some (.struct (Tryz.prog.fieldsOf 47)) := by kernel_rfl
  have hs : Tryz.prog.stoodInHeld 47 = false := by kernel_rfl
  have h3 : ∀ w, (isAgg 24).run Tryz.prog w = .ok true w := fun _ => by kernel_rfl
  have h4 : ∀ w, (sizeOf 24).run Tryz.prog w = .ok 3 w := fun _ => by kernel_rfl
  rw [run_neq_struct, show (10000 : Nat) = 9999 + 1 from rfl, run_equalIn_agg _ _ _ _ _ hu hs]
  have he : ∀ (a b c d e f : Int) (w : World), (Op.equalIn 9999 24 (.agg #[.int .i64 a, .int .i64 b, .int .i64 c]) (.agg #[.int .i64 d, .int .i64 e, .int .i64 f])).run Tryz.prog w = .ok (decide (a = d ∧ b = e ∧ c = f)) w := fun a b c d e f w => by
    rw [show (9999 : Nat) = 9997 + 2 from rfl, equalIn_ver]
  generalize 9999 = D at *
  by_cases g1 : a1 = b1 ∧ a2 = b2 ∧ a3 = b3
  · by_cases g2 : a4 = b4 ∧ a5 = b5 ∧ a6 = b6
    · simp [Program.fieldsOf, hu', Op.eqFields, part, h3, h4, he, g1, g2]
    · simp [Program.fieldsOf, hu', Op.eqFields, part, h3, h4, he, g1, g2]
  · simp [Program.fieldsOf, hu', Op.eqFields, part, h3, h4, he, g1]

theorem spn_eq {x y : Spn} : ((x.lo.major = y.lo.major ∧ x.lo.minor = y.lo.minor ∧ x.lo.patch = y.lo.patch) ∧ x.hi.major = y.hi.major ∧ x.hi.minor = y.hi.minor ∧ x.hi.patch = y.hi.patch) ↔ x = y := by
  obtain ⟨⟨a, b, c⟩, ⟨d, e, f⟩⟩ := x
  obtain ⟨⟨a', b', c'⟩, ⟨d', e', f'⟩⟩ := y
  simp only [Spn.mk.injEq, Ver.mk.injEq]

theorem beq_true {a b : ByteArray} (h : a = b) : (a.toList == b.toList) = true := by subst h; simp
theorem beq_false {a b : ByteArray} (h : a ≠ b) : (a.toList == b.toList) = false := by rw [bytes_beq]; simp [h]

theorem dep_eq {x y : Dep} : x = y ↔ x.name = y.name ∧ x.range = y.range := by
  obtain ⟨a, b⟩ := x
  obtain ⟨c, d⟩ := y
  simp only [Dep.mk.injEq]

end Go.Proofs.YtghihopmiagcpaaGreatDoor
/-
  Lists of dependencies, and packages, held against one another: both sides answer whether they are one.
-/
set_option autoImplicit false
set_option relaxedAutoImplicit false
set_option linter.unusedVariables false
set_option linter.unusedSimpArgs false
namespace Go.Proofs.YtghihopmiagcpaaGreatDoor
open Go.Rows Go.RowKit Go.Shelf Go.Sort

theorem pack_eq {x y : Pack} : x = y ↔ x.name = y.name ∧ (x.ver.major = y.ver.major ∧ x.ver.minor = y.ver.minor ∧ x.ver.patch = y.ver.patch) ∧ x.deps = y.deps ∧ x.peers = y.peers ∧ x.opts = y.opts := by
  obtain ⟨a, ⟨b, c, d⟩, e, f, g⟩ := x
  obtain ⟨a', ⟨b', c', d'⟩, e', f', g'⟩ := y
  simp only [Pack.mk.injEq, Ver.mk.injEq]

/-- a package's value -/
def PackV (w : World) (S : Nat → Prop) (p : Pack) (v : Value) : Prop :=
  ∃ A n c A' n' c' A'' n'' c'', v = .agg #[.string p.name, .int .i64 p.ver.major, .int .i64 p.ver.minor, .int .i64 p.ver.patch, .slice A n c, .slice A' n' c', .slice A'' n'' c''] ∧
    p.name.size ≤ maxLen ∧ SlV rDep w S p.deps (.slice A n c) ∧ SlV rDep w S p.peers (.slice A' n' c') ∧ SlV rDep w S p.opts (.slice A'' n'' c'')
theorem PackV.keep {w w' : World} {S : Nat → Prop} {p : Pack} {v : Value} (h : PackV w S p v) (hb : Below w.heap.size w w') : PackV w' S p v := by
  obtain ⟨A, n, c, A', n', c', A'', n'', c'', h1, h2, h3, h4, h5⟩ := h
  exact ⟨A, n, c, A', n', c', A'', n'', c'', h1, h2, h3.belowSize hb, h4.belowSize hb, h5.belowSize hb⟩

end Go.Proofs.YtghihopmiagcpaaGreatDoor
