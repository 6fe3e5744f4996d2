/-
  The document's Print of spans, walked.
-/
import Derived.Test.YtanipbpphbkmcaaDoorSpanM
import Derived.Test.YtanipbpphbkmcaaDoorSpanP
import Derived.Test.YtanipbpphbkmcaaDoorVersR
set_option autoImplicit false
set_option relaxedAutoImplicit false
set_option linter.unusedVariables false
set_option linter.unusedSimpArgs false
namespace Go.Proofs.YtanipbpphbkmcaaDoor
open Go.Rows Go.RowKit Go.Shelf Go.Sort

theorem run_eql_ver (w : World) (a b c d e f : Int) : (binOp .eql 37 (.agg #[.int .i64 a, .int .i64 b, .int .i64 c]) (.agg #[.int .i64 d, .int .i64 e, .int .i64 f])).run Tryd.prog w = .ok (.bool (decide (a = d ∧ b = e ∧ c = f))) w := by
  rw [run_eql_struct]
  have hu' := Tryd.underlying37
  have hu : Tryd.prog.underlying 37 = some (.struct (Tryd.prog.fieldsOf 37)) := by kernel_rfl
  have hs : Tryd.prog.stoodInHeld 37 = false := by kernel_rfl
  have h3 : ∀ w, (isAgg 3).run Tryd.prog w = .ok false w := fun _ => by kernel_rfl
  rw [show (10000 : Nat) = 9999 + 1 from rfl, run_equalIn_agg _ _ _ _ _ hu hs]
  have he : ∀ (x y : Int) (w : World), (Op.equalIn 9999 3 (.int .i64 x) (.int .i64 y)).run Tryd.prog w = .ok (x == y) w := fun x y w => by
    rw [show (9999 : Nat) = 9998 + 1 from rfl, run_equalIn_int (k' := .i64) (h := Tryd.underlying3)]
  by_cases h1 : a = d
  · by_cases h2 : b = e
    · by_cases h4 : c = f
      · simp [Program.fieldsOf, hu', Op.eqFields, part, h3, he, h1, h2, h4]
      · simp [Program.fieldsOf, hu', Op.eqFields, part, h3, he, h1, h2, h4]
    · simp [Program.fieldsOf, hu', Op.eqFields, part, h3, he, h1, h2]
  · simp [Program.fieldsOf, hu', Op.eqFields, part, h3, he, h1]

def accS (l : List Spn) : ByteArray := if l = [] then ⟨#[]⟩ else joinB (l.map spanText)
theorem accS_le (l : List Spn) : (accS l).size ≤ 31 * l.length := by
  unfold accS; split
  · exact Nat.zero_le _
  · exact joinB_spans_le l
theorem accS_first {l : List Spn} (h : 0 < l.length) : accS (l.take (0 + 1)) = spanText l[0] := by
  rw [List.take_succ_eq_append_getElem h]
  unfold accS
  rw [if_neg (by simp)]
  simp [joinB_one]
theorem accS_next {l : List Spn} {k : Nat} (h : k < l.length) (hk : k ≠ 0) : accS (l.take (k + 1)) = accS (l.take k) ++ sepB ++ spanText l[k] := by
  have hne : l.take k ≠ [] := by
    intro e
    have h1 : (l.take k).length = 0 := by rw [e]; rfl
    rw [List.length_take] at h1
    omega
  rw [List.take_succ_eq_append_getElem h]
  unfold accS
  rw [if_neg (show ¬ (l.take k ++ [l[k]] = []) from fun e => by cases (List.append_eq_nil_iff.1 e).2), if_neg hne, List.map_append, List.map_cons, List.map_nil, joinB_snoc (fun e => hne (List.map_eq_nil_iff.1 e))]

def C6 (W : World) (b o : Nat) (x1 x2 x3 x4 x5 x6 : Int) : Prop :=
  W.cell? ⟨b, o, none⟩ = some (.int .i64 x1) ∧ W.cell? ⟨b, o + 1, none⟩ = some (.int .i64 x2) ∧ W.cell? ⟨b, o + 2, none⟩ = some (.int .i64 x3) ∧
  W.cell? ⟨b, o + 3, none⟩ = some (.int .i64 x4) ∧ W.cell? ⟨b, o + 4, none⟩ = some (.int .i64 x5) ∧ W.cell? ⟨b, o + 5, none⟩ = some (.int .i64 x6)

end Go.Proofs.YtanipbpphbkmcaaDoor
