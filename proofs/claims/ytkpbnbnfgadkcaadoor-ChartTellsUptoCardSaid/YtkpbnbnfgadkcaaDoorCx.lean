/-
  Complex numbers whose parts are whole: product, sum, the way from and to integers, the sign turned.
-/
import Derived.Test.YtkpbnbnfgadkcaaDoorFlt
import Derived.Laws.ComplexArith
import Derived.Laws.FloatArith
import GoSem.Op.Unary
import Derived.Laws.Entries
namespace Go.Proofs.YtkpbnbnfgadkcaaDoor

theorem run_store_float (P : Program) (w : World) (a : Addr) (m : Mode) (k : FloatKind) (b : Nat) : (store a (.float k b) m).run P w = stored P w a (.float k b) m := run_store P w a _ m rfl
theorem run_store_complex (P : Program) (w : World) (a : Addr) (m : Mode) (k : FloatKind) (x y : Nat) : (store a (.complex k x y) m).run P w = stored P w a (.complex k x y) m := run_store P w a _ m rfl

theorem flt_ofInt {n : Int} (hn : n.natAbs < 2 ^ 53) : Flt (floatOfInt .f64 n) n := flt_nearest n hn
theorem flt_one : Flt 4607182418800017408 1 := ⟨false, 2 ^ 52, -52, by decide, by decide, by decide⟩
theorem flt_zero : Flt 0 0 := ⟨false, 0, -1074, by decide, by decide, by rw [Int.zero_mul]; decide⟩

theorem flt_floatToInt {b : Nat} {n : Int} (h : Flt b n) (hn : n.natAbs < 2 ^ 53) : floatToIntVal .f64 b .i64 = some n := by
  have := h.toInt
  unfold floatToIntVal
  rw [show FloatKind.f64.decode b = Ieee.double.read b from rfl, this]
  have h1 : IntKind.i64.min = -9223372036854775808 := by decide
  have h2 : IntKind.i64.max = 9223372036854775807 := by decide
  simp only [h1, h2]
  rw [if_pos (by omega)]

theorem cmul_flt {a b c d : Nat} {x y u v : Int} (ha : Flt a x) (hb : Flt b y) (hc : Flt c u) (hd : Flt d v)
    (h1 : (x * u).natAbs < 2 ^ 53) (h2 : (y * v).natAbs < 2 ^ 53) (h3 : (x * u - y * v).natAbs < 2 ^ 53)
    (h4 : (x * v).natAbs < 2 ^ 53) (h5 : (y * u).natAbs < 2 ^ 53) (h6 : (x * v + y * u).natAbs < 2 ^ 53) :
    ∃ re im, cMulBits a b c d = some (re, im) ∧ Flt re (x * u - y * v) ∧ Flt im (x * v + y * u) := by
  obtain ⟨ac, e1, f1⟩ := flt_mul ha hc h1
  obtain ⟨bd, e2, f2⟩ := flt_mul hb hd h2
  obtain ⟨re, e3, f3⟩ := flt_sub f1 f2 h3
  obtain ⟨ad, e4, f4⟩ := flt_mul ha hd h4
  obtain ⟨bc, e5, f5⟩ := flt_mul hb hc h5
  obtain ⟨im, e6, f6⟩ := flt_sum f4 f5 h6
  refine ⟨re, im, ?_, f3, f6⟩
  have g1 : floatBits .mul .f64 a c = some ac := e1
  have g2 : floatBits .mul .f64 b d = some bd := e2
  have g3 : floatBits .sub .f64 ac bd = some re := e3
  have g4 : floatBits .mul .f64 a d = some ad := e4
  have g5 : floatBits .mul .f64 b c = some bc := e5
  have g6 : floatBits .add .f64 ad bc = some im := e6
  simp [cMulBits, g1, g2, g3, g4, g5, g6]

theorem cadd_flt {a b c d : Nat} {x y u v : Int} (ha : Flt a x) (hb : Flt b y) (hc : Flt c u) (hd : Flt d v)
    (h1 : (x + u).natAbs < 2 ^ 53) (h2 : (y + v).natAbs < 2 ^ 53) : ∃ re im, cSumBits .add .f64 a b c d = some (re, im) ∧ Flt re (x + u) ∧ Flt im (y + v) := by
  obtain ⟨re, e1, f1⟩ := flt_sum ha hc h1
  obtain ⟨im, e2, f2⟩ := flt_sum hb hd h2
  refine ⟨re, im, ?_, f1, f2⟩
  have g1 : floatBits .add .f64 a c = some re := e1
  have g2 : floatBits .add .f64 b d = some im := e2
  simp [cSumBits, g1, g2]

theorem natAbs_mul_lt {x u : Int} {A B C : Nat} (hx : x.natAbs ≤ A) (hu : u.natAbs ≤ B) (h : A * B < C) : (x * u).natAbs < C := by
  rw [Int.natAbs_mul]
  exact Nat.lt_of_le_of_lt (Nat.mul_le_mul hx hu) h

/-- a product of a point up to 2^40 and one up to 1024 -/
theorem cmul_small {a b c d : Nat} {x y u v : Int} (ha : Flt a x) (hb : Flt b y) (hc : Flt c u) (hd : Flt d v)
    (hx : x.natAbs ≤ 1099511627776) (hy : y.natAbs ≤ 1099511627776) (hu : u.natAbs ≤ 1024) (hv : v.natAbs ≤ 1024) :
    ∃ re im, cMulBits a b c d = some (re, im) ∧ Flt re (x * u - y * v) ∧ Flt im (x * v + y * u) := by
  have h1 : (x * u).natAbs < 1125899906842625 := natAbs_mul_lt hx hu (by omega)
  have h2 : (y * v).natAbs < 1125899906842625 := natAbs_mul_lt hy hv (by omega)
  have h4 : (x * v).natAbs < 1125899906842625 := natAbs_mul_lt hx hv (by omega)
  have h5 : (y * u).natAbs < 1125899906842625 := natAbs_mul_lt hy hu (by omega)
  generalize hA : x * u = A at *
  generalize hB : y * v = B at *
  generalize hC : x * v = C at *
  generalize hD : y * u = D at *
  have e : (2 : Nat) ^ 53 = 9007199254740992 := by decide
  have := cmul_flt ha hb hc hd (by rw [hA, e]; omega) (by rw [hB, e]; omega) (by rw [hA, hB, e]; omega) (by rw [hC, e]; omega) (by rw [hD, e]; omega) (by rw [hC, hD, e]; omega)
  rw [hA, hB, hC, hD] at this
  exact this

theorem flt_neg {b : Nat} {n : Int} (h : Flt b n) : Flt (Op.negFloat .f64 b) (-n) := by
  obtain ⟨s, m, i, hr, hi, hv⟩ := h
  refine ⟨!s, m, i, ?_, hi, ?_⟩
  · obtain ⟨h1, h2, h3, h4⟩ := double_consts
    have e1 : (Op.negFloat .f64 b) % 2 ^ 63 = b % 2 ^ 63 := by
      show (b ^^^ 2 ^ 63) % 2 ^ 63 = b % 2 ^ 63
      rw [Nat.xor_mod_two_pow, Nat.mod_self, Nat.xor_zero]
    have e2 : (Op.negFloat .f64 b) / 2 ^ 63 % 2 = 1 - b / 2 ^ 63 % 2 := by
      show (b ^^^ 2 ^ 63) / 2 ^ 63 % 2 = 1 - b / 2 ^ 63 % 2
      rw [Nat.xor_div_two_pow, Nat.div_self (by decide)]
      generalize b / 2 ^ 63 = q
      have := Nat.xor_mod_two_pow (a := q) (b := 1) (n := 1)
      simp only [Nat.pow_one] at this
      rw [this]
      rcases Nat.mod_two_eq_zero_or_one q with h | h <;> rw [h] <;> decide
    have e3 : b / 2 ^ 63 % 2 = 0 ∨ b / 2 ^ 63 % 2 = 1 := Nat.mod_two_eq_zero_or_one _
    unfold Ieee.Format.read at hr ⊢
    rw [h1] at hr ⊢
    rw [e1, e2]
    generalize b / 2 ^ 63 % 2 = q at *
    generalize b % 2 ^ 63 = g at *
    simp only at hr ⊢
    split at hr
    · rename_i hlt
      rw [if_pos hlt]
      simp only [Ieee.Datum.number.injEq] at hr ⊢
      refine ⟨?_, hr.2⟩
      rw [← hr.1]
      rcases e3 with h | h <;> subst h <;> decide
    · rename_i hlt
      rw [if_neg hlt]
      split at hr
      · rename_i hlt2
        rw [if_pos hlt2]
        simp only [Ieee.Datum.number.injEq] at hr ⊢
        refine ⟨?_, hr.2⟩
        rw [← hr.1]
        rcases e3 with h | h <;> subst h <;> decide
      · split at hr <;> cases hr
  · rw [Int.neg_mul, ← hv, signed_zero, signed_zero]
    cases s <;> simp
end Go.Proofs.YtkpbnbnfgadkcaaDoor
