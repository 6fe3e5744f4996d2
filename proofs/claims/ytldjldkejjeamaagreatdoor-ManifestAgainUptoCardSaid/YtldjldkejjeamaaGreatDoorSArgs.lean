/-
  Arguments of a law over ranges, opened; the sentinels that the row lists, in its witness world and as the walks ask them.
-/
import Derived.Test.YtldjldkejjeamaaGreatDoorOpenB
import Derived.Test.YtldjldkejjeamaaGreatDoorDataO
import Derived.Test.YtldjldkejjeamaaGreatDoorItoa
import Derived.Test.YtldjldkejjeamaaGreatDoorVParse
import Derived.ProofKit
import Derived.OpenShut
set_option maxRecDepth 100000
namespace Go.Proofs.YtldjldkejjeamaaGreatDoor
open Go.ChangeShapes Go.WideShapes Go.ChangeAt Go.RowKit
set_option linter.unusedVariables false
set_option linter.unusedSimpArgs false

/-- the texts of the listed sentinels, each a block -/
def sentBlocks : List (String × DataW Unit) → List Obj
  | [] => []
  | (_, .iface _ (.ptr (.agg [.lit (.string t)]))) :: r => .cells #[.string ⟨t.toArray⟩] 219 :: sentBlocks r
  | _ :: r => sentBlocks r
/-- a heap in which the listed variables hold their data; the sentinels' texts lie from a block on -/
def layAllE (P : Program) : Nat → List (String × DataW Unit) → Array Obj → Array Obj
  | _, [], h => h
  | k, (n, .iface _ (.ptr _)) :: r, h => layAllE P (k + 1) r (match P.globalNamed n with
    | some g => h.modify g fun
      | .cells _ t fr => .cells #[.iface 217 (.pointer (some ⟨k, 0, none⟩))] t fr
      | o => o
    | none => h)
  | k, (n, d) :: r, h => layAllE P k r (match P.globalNamed n with
    | some g => h.modify g fun
      | .cells _ t fr => .cells (flat3 d).toArray t fr
      | o => o
    | none => h)
noncomputable def laidWorldE (P : Program) (l : List (String × DataW Unit)) (os : Os) : World :=
  let w0 := World.holding P os ⟨(sentBlocks l).toArray, #[], []⟩
  { w0 with heap := layAllE P (World.holding P os ⟨#[], #[], []⟩).heap.size l w0.heap }

theorem spans_arg {H : Type} {enc : TypeId × Value → H} {w : World} {v : Value} {d : DataW H} {ps : List MemPlace} {base : Nat} {r : Reach}
    (hv : Value.okWide Tryz.prog w r base 36 v) (h : DataW.Trod enc Tryz.prog w 0 (fun _ => true) true 36 v d ps) :
    ∃ A n c xs, v = .slice A n c ∧ SlV rSpn w (fun b => b < w.heap.size) xs (.slice A n c) ∧ bkL bkSpn xs ≤ Rows.uptoBulk d := by
  obtain ⟨A, n, c, rfl⟩ := okWide_slice Tryz.underlying36 hv
  obtain ⟨l, hl, hbk⟩ := opensB_arg (opensB_slice (e := 40) Tryz.underlying36 (r := rSpn) (by kernel_rfl) (by decide) opensB_Spn) h
  exact ⟨A, n, c, l, rfl, hl, hbk⟩
theorem spans_small {xs : List Spn} {B : Nat} (h : bkL bkSpn xs ≤ B) (hB : B ≤ 1048576) : xs.length * 9 ≤ 1048576 := by
  have key : ∀ l : List Spn, l.length * 9 ≤ bkL bkSpn l := by
    intro l
    induction l with
    | nil => simp
    | cons x l ih =>
      show (l.length + 1) * 9 ≤ bkSpn x + bkL bkSpn l
      have : bkSpn x = 9 := rfl
      omega
  have := key xs
  omega
theorem ver_arg {H : Type} {enc : TypeId × Value → H} {w : World} {v : Value} {d : DataW H} {ps : List MemPlace} {base : Nat} {r : Reach}
    (hv : Value.okWide Tryz.prog w r base 23 v) (h : DataW.Trod enc Tryz.prog w 0 (fun _ => true) true 23 v d ps) :
    ∃ x : Ver, v = verV x ∧ (I64 x.major ∧ I64 x.minor ∧ I64 x.patch) ∧ 1 ≤ Rows.uptoBulk d := by
  obtain ⟨y, hy, hbk⟩ := opensB_arg opensB_Ver h
  obtain ⟨cs, rfl, _⟩ := okWide_struct Tryz.underlying23 hv
  obtain ⟨hcs, h1, h2, h3⟩ := hy
  have e : cs.toList = [.int .i64 y.major, .int .i64 y.minor, .int .i64 y.patch] := hcs
  obtain rfl : cs = #[.int .i64 y.major, .int .i64 y.minor, .int .i64 y.patch] := Array.ext' e
  exact ⟨y, rfl, ⟨h1, h2, h3⟩, by have := hbk; unfold bkVer at this; omega⟩
theorem txt_arg {H : Type} {enc : TypeId × Value → H} {w : World} {v : Value} {d : DataW H} {ps : List MemPlace} {base : Nat} {r : Reach}
    (hv : Value.okWide Tryz.prog w r base 9 v) (h : DataW.Trod enc Tryz.prog w 0 (fun _ => true) true 9 v d ps) :
    ∃ x, v = .string x ∧ x.size ≤ maxLen ∧ x.size + 1 ≤ Rows.uptoBulk d := by
  obtain ⟨y, hy, hbk⟩ := opensB_arg (opensB_str Tryz.underlying9) h
  obtain ⟨n, rfl⟩ := okWide_string Tryz.underlying9 hv
  obtain ⟨h1, h2⟩ := hy
  have e : [Value.string n] = [.string y] := h1
  simp at e
  subst e
  exact ⟨_, rfl, h2, hbk⟩
theorem sent_of {n : String} {text : List UInt8} {r : List (String × DataW Unit)} {W : World} {g : Nat} {ti ts : TypeId} {ms : Array (String × TypeId)} {f : Field}
    (h : laidMet Tryz.prog ((n, .iface "*errors.errorString" (.ptr (.agg [.lit (.string text)]))) :: r) W)
    (hg : Tryz.prog.globalNamed n = some g) (ht : (Tryz.prog.globals[g]?).map (·.type) = some ti) (hi : Tryz.prog.underlying ti = some (.interface ms)) (hrow : ∀ u, Tryz.prog.typeName? 3 u = some "*errors.errorString" → u = 217)
    (hp : Tryz.prog.underlying 217 = some (.pointer 219)) (he : Tryz.prog.underlying 219 = some (.struct #[f])) (hft : f.type = ts) (hfo : f.offset = 0) (hs : Tryz.prog.underlying ts = some .string) (hc : Tryz.prog.cellsOf 219 = 1) (hcs : Tryz.prog.cellsOf ts = 1) :
    ∃ te pe, W.cell? ⟨g, 0, none⟩ = some (.iface te pe) := by
  obtain ⟨a, s, hv, _⟩ := laid_sentinel h hg ht hi hrow hp he hft hfo hs hc hcs
  exact ⟨_, _, World.var?_cell hg hv 0⟩
end Go.Proofs.YtldjldkejjeamaaGreatDoor
