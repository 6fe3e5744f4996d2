/-
  Whole numbers in doubles: sums and products that stay below 2^53 are exact. Complex numbers whose parts are whole: product, sum, the way from and to integers, the sign turned.
-/
import Ieee.Arith
import Derived.Laws.ComplexArith
import Derived.Laws.FloatArith
import GoSem.Op.Unary
import Derived.Laws.Entries
namespace Go.Proofs.YtkpbnbnfgadkcaaGreatDoor
open Ieee

/-- the word x stands for the whole number n (of either sign of zero) -/
def Flt (x : Nat) (n : Int) : Prop :=
  ∃ neg mag place, Ieee.double.read x = Datum.number neg mag place ∧ place ≤ 0 ∧ signed neg mag 0 = n * ((2 ^ (-place).toNat : Nat) : Int)

theorem signed_zero (neg : Bool) (mag : Nat) : signed neg mag 0 = if neg then -(mag : Int) else (mag : Int) := by
  cases neg <;> simp [signed]

theorem word_read_small (neg : Bool) : Ieee.double.read (Ieee.double.word neg 0) = Datum.number neg 0 (-1074) := by
  cases neg <;> decide

theorem double_consts : Ieee.double.signWeight = 2 ^ 63 ∧ Ieee.double.binade = 2 ^ 52 ∧ Ieee.double.infRung = 2047 * 2 ^ 52 ∧ Ieee.double.leastPlace = -1074 := by
  refine ⟨by decide, by decide, by decide, by decide⟩

theorem read_rung (neg : Bool) (e r : Nat) (he1 : 1 ≤ e) (he2 : e < 2047) (hr : r < 2 ^ 52) :
    Ieee.double.read (Ieee.double.word neg (e * 2 ^ 52 + r)) = Datum.number neg (2 ^ 52 + r) (-1074 + (e - 1 : Nat)) := by
  obtain ⟨h1, h2, h3, h4⟩ := double_consts
  have hlt : e * 2 ^ 52 + r < 2047 * 2 ^ 52 := by omega
  have hge : 2 ^ 52 ≤ e * 2 ^ 52 + r := by omega
  have hn : (Ieee.double.word neg (e * 2 ^ 52 + r)) / 2 ^ 63 % 2 = if neg then 1 else 0 := by
    unfold Format.word
    rw [h1]
    cases neg <;> simp <;> omega
  have hm : (Ieee.double.word neg (e * 2 ^ 52 + r)) % 2 ^ 63 = e * 2 ^ 52 + r := by
    unfold Format.word
    rw [h1]
    cases neg <;> simp <;> omega
  have hd : (e * 2 ^ 52 + r) / 2 ^ 52 = e := by omega
  have hmm : (e * 2 ^ 52 + r) % 2 ^ 52 = r := by omega
  unfold Format.read
  rw [h1, h2, h3, h4]
  simp only [hn, hm, hd, hmm]
  rw [if_neg (by omega), if_pos hlt]
  cases neg <;> simp

theorem pos_pow (p : Nat) : 0 < 2 ^ p := Nat.pow_pos (by omega)

theorem log2_mul_pow (n p : Nat) (hn : n ≠ 0) : (n * 2 ^ p).log2 = n.log2 + p := by
  have h1 := Nat.log2_self_le hn
  have h2 := @Nat.lt_log2_self n
  have hp := pos_pow p
  rw [Nat.log2_eq_iff (by have := Nat.mul_pos (Nat.pos_of_ne_zero hn) hp; omega)]
  refine ⟨?_, ?_⟩
  · rw [Nat.pow_add]; exact Nat.mul_le_mul_right _ h1
  · rw [show n.log2 + p + 1 = (n.log2 + 1) + p from by omega, Nat.pow_add]
    exact Nat.mul_lt_mul_of_pos_right h2 hp

theorem cut_exact (way : Toward) (neg : Bool) (k d : Nat) (hk : k ≠ 0) : way.cut neg (k * 2 ^ d) d = k := by
  have hp := pos_pow d
  have hl : min d ((k * 2 ^ d).log2 + 2) = d := by rw [log2_mul_pow k d hk]; omega
  have hmod : k * 2 ^ d % 2 ^ d = 0 := Nat.mul_mod_left _ _
  have hdiv : k * 2 ^ d / 2 ^ d = k := Nat.mul_div_cancel _ hp
  unfold Toward.cut
  simp only [hl, Nat.one_shiftLeft, hmod, hdiv]
  cases way <;> simp

theorem cut_zero (way : Toward) (neg : Bool) (d : Nat) : way.cut neg 0 d = 0 := by
  unfold Toward.cut
  have : 1 <<< min d (Nat.log2 0 + 2) ≠ 0 := by rw [Nat.one_shiftLeft]; have := pos_pow (min d (Nat.log2 0 + 2)); omega
  generalize 1 <<< min d (Nat.log2 0 + 2) = g at *
  cases way <;> simp

theorem signed_eq {neg : Bool} {mag : Nat} {n : Int} {p : Nat} (h : signed neg mag 0 = n * ((2 ^ p : Nat) : Int)) :
    mag = n.natAbs * 2 ^ p ∧ (mag ≠ 0 → neg = decide (n < 0)) := by
  have hp := pos_pow p
  have ha : mag = n.natAbs * 2 ^ p := by
    have := congrArg Int.natAbs h
    rw [Int.natAbs_mul, Int.natAbs_natCast, signed_zero] at this
    cases neg <;> simp at this <;> omega
  refine ⟨ha, fun hm => ?_⟩
  rw [signed_zero] at h
  have hP : (0 : Int) < ((2 ^ p : Nat) : Int) := by omega
  generalize ((2 ^ p : Nat) : Int) = P at *
  cases neg
  · simp only [Bool.false_eq_true, if_false] at h
    have : ¬ n < 0 := fun hn => by have := Int.mul_neg_of_neg_of_pos hn hP; omega
    simp [this]
  · simp only [if_true] at h
    have : n < 0 := by
      rcases Int.lt_or_le n 0 with h0 | h0
      · exact h0
      · have := Int.mul_nonneg h0 (Int.le_of_lt hP); omega
    simp [this]

theorem rung_min_aux (L r B : Nat) (hL : L ≤ 52) (hr : r < B) : min ((L + 1022) * B + (B + r)) (2047 * B) = (L + 1023) * B + r := by
  have h3 : (L + 1023) * B = (L + 1022) * B + B := by
    have : (L + 1022 + 1) * B = (L + 1022) * B + B := by rw [Nat.add_mul, Nat.one_mul]
    exact this
  have h4 : (L + 1024) * B = (L + 1023) * B + B := by
    have : (L + 1023 + 1) * B = (L + 1023) * B + B := by rw [Nat.add_mul, Nat.one_mul]
    exact this
  have h5 : (L + 1024) * B ≤ 2047 * B := Nat.mul_le_mul_right _ (by omega)
  generalize (L + 1022) * B = X at *
  generalize (L + 1023) * B = Y at *
  generalize (L + 1024) * B = Z at *
  generalize 2047 * B = W at *
  omega
theorem rung_min (L r : Nat) (hL : L ≤ 52) (hr : r < 2 ^ 52) : min ((L + 1022) * 2 ^ 52 + (2 ^ 52 + r)) (2047 * 2 ^ 52) = (L + 1023) * 2 ^ 52 + r :=
  rung_min_aux L r (2 ^ 52) hL hr

theorem flt_write {neg : Bool} {mag : Nat} {place : Int} {n : Int} (hpl : place ≤ 0) (hv : signed neg mag 0 = n * ((2 ^ (-place).toNat : Nat) : Int))
    (hn : n.natAbs < 2 ^ 53) : Flt (Ieee.double.write (.number neg mag place)) n := by
  obtain ⟨h1, h2, h3, h4⟩ := double_consts
  obtain ⟨hm, hs⟩ := signed_eq hv
  have hf : (Ieee.double.fractionBits : Int) = 52 := rfl
  obtain ⟨p, hp⟩ : ∃ p : Nat, place = -(p : Int) := ⟨(-place).toNat, by omega⟩
  subst hp
  simp only [Int.neg_neg, Int.toNat_natCast] at *
  show Flt (Ieee.double.nearest neg mag (-(p : Int))) n
  unfold Format.nearest
  by_cases hz : mag = 0
  · rw [if_pos hz]
    have hn0 : n = 0 := by
      have := pos_pow p
      rcases Nat.eq_zero_or_pos n.natAbs with h | h
      · omega
      · have := Nat.mul_pos h this; omega
    subst hn0
    exact ⟨neg, 0, -1074, word_read_small neg, by omega, by rw [signed_zero, Int.zero_mul]; cases neg <;> rfl⟩
  · rw [if_neg hz]
    have hn0 : n.natAbs ≠ 0 := by intro h; rw [h] at hm; simp at hm; exact hz hm
    have hL := Nat.log2_self_le hn0
    have hL2 := @Nat.lt_log2_self n.natAbs
    have hlog : mag.log2 = n.natAbs.log2 + p := by rw [hm]; exact log2_mul_pow _ _ hn0
    have hL52 : n.natAbs.log2 ≤ 52 := by have := (Nat.log2_lt hn0).2 hn; omega
    generalize hLL : n.natAbs.log2 = L at *
    have hlast : max (-(p : Int) + (mag.log2 : Int) - (Ieee.double.fractionBits : Int)) Ieee.double.leastPlace = (L : Int) - 52 := by
      rw [hlog, h4, hf]; omega
    simp only [hlast]
    have hkept : Toward.even.cut neg (mag <<< (-(p : Int) - ((L : Int) - 52)).toNat) (((L : Int) - 52) - (-(p : Int))).toNat = n.natAbs * 2 ^ (52 - L) := by
      have hK0 : n.natAbs * 2 ^ (52 - L) ≠ 0 := by have := Nat.mul_pos (Nat.pos_of_ne_zero hn0) (pos_pow (52 - L)); omega
      by_cases hc : p ≤ 52 - L
      · have e1 : (-(p : Int) - ((L : Int) - 52)).toNat = 52 - L - p := by omega
        have e2 : (((L : Int) - 52) - (-(p : Int))).toNat = 0 := by omega
        rw [e1, e2, hm, Nat.shiftLeft_eq, Nat.mul_assoc, ← Nat.pow_add, show p + (52 - L - p) = 52 - L from by omega]
        have := cut_exact .even neg (n.natAbs * 2 ^ (52 - L)) 0 hK0
        simpa using this
      · have e1 : (-(p : Int) - ((L : Int) - 52)).toNat = 0 := by omega
        have e2 : (((L : Int) - 52) - (-(p : Int))).toNat = p - (52 - L) := by omega
        rw [e1, e2, hm, Nat.shiftLeft_zero]
        have := cut_exact .even neg (n.natAbs * 2 ^ (52 - L)) (p - (52 - L)) hK0
        rw [Nat.mul_assoc, ← Nat.pow_add, show 52 - L + (p - (52 - L)) = p from by omega] at this
        exact this
    rw [hkept]
    have hKlo : 2 ^ 52 ≤ n.natAbs * 2 ^ (52 - L) := by
      calc 2 ^ 52 = 2 ^ L * 2 ^ (52 - L) := by rw [← Nat.pow_add]; congr 1; omega
        _ ≤ _ := Nat.mul_le_mul_right _ hL
    have hKhi : n.natAbs * 2 ^ (52 - L) < 2 ^ 53 := by
      calc n.natAbs * 2 ^ (52 - L) < 2 ^ (L + 1) * 2 ^ (52 - L) := Nat.mul_lt_mul_of_pos_right hL2 (pos_pow _)
        _ = 2 ^ 53 := by rw [← Nat.pow_add]; congr 1; omega
    obtain ⟨r, hr⟩ : ∃ r, n.natAbs * 2 ^ (52 - L) = 2 ^ 52 + r := ⟨n.natAbs * 2 ^ (52 - L) - 2 ^ 52, by omega⟩
    have e3 : ((L : Int) - 52 - Ieee.double.leastPlace).toNat = L + 1022 := by rw [h4]; omega
    rw [e3, h2, h3, hr]
    rw [rung_min L r hL52 (by omega)]
    refine ⟨neg, _, _, read_rung neg (L + 1023) r (by omega) (by omega) (by omega), by omega, ?_⟩
    rw [show (-(-1074 + (((L + 1023 - 1 : Nat)) : Int))).toNat = 52 - L from by omega, ← hr, signed_zero, hs hz]
    by_cases hneg : n < 0
    · simp only [hneg, decide_true, if_true]
      rw [show ((n.natAbs * 2 ^ (52 - L) : Nat) : Int) = (n.natAbs : Int) * ((2 ^ (52 - L) : Nat) : Int) from by push_cast; rfl, ← Int.neg_mul]
      congr 1; omega
    · simp only [hneg, decide_false, Bool.false_eq_true, if_false]
      rw [show ((n.natAbs * 2 ^ (52 - L) : Nat) : Int) = (n.natAbs : Int) * ((2 ^ (52 - L) : Nat) : Int) from by push_cast; rfl]
      congr 1; omega

theorem Flt.toInt {x : Nat} {n : Int} (h : Flt x n) : (Ieee.double.read x).toInt .zero = some n := by
  obtain ⟨neg, mag, place, hr, hp, hv⟩ := h
  obtain ⟨hm, hs⟩ := signed_eq hv
  rw [hr]
  unfold Datum.toInt Datum.integral
  simp only [Option.some.injEq]
  rw [show place.toNat = 0 from by omega, Nat.shiftLeft_zero]
  by_cases hz : mag = 0
  · subst hz
    rw [cut_zero, signed_zero]
    have hn0 : n = 0 := by
      have := pos_pow (-place).toNat
      rcases Nat.eq_zero_or_pos n.natAbs with h | h
      · omega
      · have := Nat.mul_pos h this; omega
    subst hn0
    cases neg <;> simp
  · have hn0 : n.natAbs ≠ 0 := by intro h; rw [h] at hm; simp at hm; exact hz hm
    rw [hm, cut_exact _ _ _ _ hn0, signed_zero, hs hz]
    by_cases hneg : n < 0 <;> simp [hneg] <;> omega

theorem flt_nearest (n : Int) (hn : n.natAbs < 2 ^ 53) : Flt (Ieee.double.write (.number (n < 0) n.natAbs 0)) n := by
  refine flt_write (by omega) ?_ hn
  rw [signed_zero]
  by_cases h : n < 0 <;> simp [h] <;> omega

theorem signed_up (neg : Bool) (mag u : Nat) : signed neg mag u = signed neg mag 0 * ((2 ^ u : Nat) : Int) := by
  unfold signed
  cases neg <;> simp [Nat.shiftLeft_eq]
  rw [Int.neg_mul]

theorem flt_sum {x y : Nat} {a b : Int} (hx : Flt x a) (hy : Flt y b) (hab : (a + b).natAbs < 2 ^ 53) : ∃ z, Ieee.double.add x y = some z ∧ Flt z (a + b) := by
  obtain ⟨s, m, i, hrx, hi, hvx⟩ := hx
  obtain ⟨t, k, j, hry, hj, hvy⟩ := hy
  refine ⟨_, by unfold Format.add; rw [hrx, hry]; rfl, flt_write (by omega) ?_ hab⟩
  have htot : signed s m (i - min i j).toNat + signed t k (j - min i j).toNat = (a + b) * ((2 ^ (-(min i j)).toNat : Nat) : Int) := by
    rw [signed_up s, signed_up t, hvx, hvy, Int.mul_assoc, Int.mul_assoc, ← Int.natCast_mul, ← Int.natCast_mul, ← Nat.pow_add, ← Nat.pow_add,
      show (-i).toNat + (i - min i j).toNat = (-(min i j)).toNat from by omega, show (-j).toNat + (j - min i j).toNat = (-(min i j)).toNat from by omega, Int.add_mul]
  rw [← htot, signed_zero]
  generalize signed s m (i - min i j).toNat + signed t k (j - min i j).toNat = T
  by_cases h0 : T = 0
  · subst h0; simp
  · simp only [h0, if_false]
    by_cases hneg : T < 0 <;> simp [hneg] <;> omega

theorem opposite_flt {x : Nat} {a : Int} (h : Flt x a) : ∃ neg mag place, (Ieee.double.read x).opposite = Datum.number neg mag place ∧ place ≤ 0 ∧ signed neg mag 0 = (-a) * ((2 ^ (-place).toNat : Nat) : Int) := by
  obtain ⟨s, m, i, hrx, hi, hvx⟩ := h
  refine ⟨!s, m, i, by rw [hrx]; rfl, hi, ?_⟩
  rw [Int.neg_mul, ← hvx, signed_zero, signed_zero]
  cases s <;> simp

theorem flt_sub {x y : Nat} {a b : Int} (hx : Flt x a) (hy : Flt y b) (hab : (a - b).natAbs < 2 ^ 53) : ∃ z, Ieee.double.sub x y = some z ∧ Flt z (a - b) := by
  obtain ⟨s, m, i, hrx, hi, hvx⟩ := hx
  obtain ⟨t, k, j, hry, hj, hvy⟩ := opposite_flt hy
  refine ⟨_, by unfold Format.sub; rw [hrx, hry]; rfl, flt_write (by omega) ?_ hab⟩
  have htot : signed s m (i - min i j).toNat + signed t k (j - min i j).toNat = (a - b) * ((2 ^ (-(min i j)).toNat : Nat) : Int) := by
    rw [signed_up s, signed_up t, hvx, hvy, Int.mul_assoc, Int.mul_assoc, ← Int.natCast_mul, ← Int.natCast_mul, ← Nat.pow_add, ← Nat.pow_add,
      show (-i).toNat + (i - min i j).toNat = (-(min i j)).toNat from by omega, show (-j).toNat + (j - min i j).toNat = (-(min i j)).toNat from by omega, ← Int.add_mul]
    rfl
  rw [← htot, signed_zero]
  generalize signed s m (i - min i j).toNat + signed t k (j - min i j).toNat = T
  by_cases h0 : T = 0
  · subst h0; simp
  · simp only [h0, if_false]
    by_cases hneg : T < 0 <;> simp [hneg] <;> omega

theorem signed_mul (s t : Bool) (m n : Nat) : signed (s ^^ t) (m * n) 0 = signed s m 0 * signed t n 0 := by
  rw [signed_zero, signed_zero, signed_zero]
  cases s <;> cases t <;> simp [Int.neg_mul, Int.mul_neg]

theorem flt_mul {x y : Nat} {a b : Int} (hx : Flt x a) (hy : Flt y b) (hab : (a * b).natAbs < 2 ^ 53) : ∃ z, Ieee.double.mul x y = some z ∧ Flt z (a * b) := by
  obtain ⟨s, m, i, hrx, hi, hvx⟩ := hx
  obtain ⟨t, k, j, hry, hj, hvy⟩ := hy
  refine ⟨_, by unfold Format.mul; rw [hrx, hry]; rfl, flt_write (by omega) ?_ hab⟩
  rw [signed_mul, hvx, hvy, show (-(i + j)).toNat = (-i).toNat + (-j).toNat from by omega, Nat.pow_add, Int.natCast_mul]
  simp only [Int.mul_assoc, Int.mul_left_comm]
end Go.Proofs.YtkpbnbnfgadkcaaGreatDoor
namespace Go.Proofs.YtkpbnbnfgadkcaaGreatDoor

theorem run_store_float (P : Program) (w : World) (a : Addr) (m : Mode) (k : FloatKind) (b : Nat) : (store a (.float k b) m).run P w = stored P w a (.float k b) m := run_store P w a _ m rfl
theorem run_store_complex (P : Program) (w : World) (a : Addr) (m : Mode) (k : FloatKind) (x y : Nat) : (store a (.complex k x y) m).run P w = stored P w a (.complex k x y) m := run_store P w a _ m rfl

theorem flt_ofInt {n : Int} (hn : n.natAbs < 2 ^ 53) : Flt (floatOfInt .f64 n) n := flt_nearest n hn
theorem flt_one : Flt 4607182418800017408 1 := ⟨false, 2 ^ 52, -52, by decide, by decide, by decide⟩
theorem flt_zero : Flt 0 0 := ⟨false, 0, -1074, by decide, by decide, by rw [Int.zero_mul]; decide⟩

theorem flt_floatToInt {b : Nat} {n : Int} (h : Flt b n) (hn : n.natAbs < 2 ^ 53) : floatToIntVal .f64 b .i64 = some n := by
  have := h.toInt
  unfold floatToIntVal
  rw [show FloatKind.f64.decode b = Ieee.double.read b from rfl, this]
  have h1 : IntKind.i64.min = -9223372036854775808 := by decide
  have h2 : IntKind.i64.max = 9223372036854775807 := by decide
  simp only [h1, h2]
  rw [if_pos (by omega)]

theorem cmul_flt {a b c d : Nat} {x y u v : Int} (ha : Flt a x) (hb : Flt b y) (hc : Flt c u) (hd : Flt d v)
    (h1 : (x * u).natAbs < 2 ^ 53) (h2 : (y * v).natAbs < 2 ^ 53) (h3 : (x * u - y * v).natAbs < 2 ^ 53)
    (h4 : (x * v).natAbs < 2 ^ 53) (h5 : (y * u).natAbs < 2 ^ 53) (h6 : (x * v + y * u).natAbs < 2 ^ 53) :
    ∃ re im, cMulBits a b c d = some (re, im) ∧ Flt re (x * u - y * v) ∧ Flt im (x * v + y * u) := by
  obtain ⟨ac, e1, f1⟩ := flt_mul ha hc h1
  obtain ⟨bd, e2, f2⟩ := flt_mul hb hd h2
  obtain ⟨re, e3, f3⟩ := flt_sub f1 f2 h3
  obtain ⟨ad, e4, f4⟩ := flt_mul ha hd h4
  obtain ⟨bc, e5, f5⟩ := flt_mul hb hc h5
  obtain ⟨im, e6, f6⟩ := flt_sum f4 f5 h6
  refine ⟨re, im, ?_, f3, f6⟩
  have g1 : floatBits .mul .f64 a c = some ac := e1
  have g2 : floatBits .mul .f64 b d = some bd := e2
  have g3 : floatBits .sub .f64 ac bd = some re := e3
  have g4 : floatBits .mul .f64 a d = some ad := e4
  have g5 : floatBits .mul .f64 b c = some bc := e5
  have g6 : floatBits .add .f64 ad bc = some im := e6
  simp [cMulBits, g1, g2, g3, g4, g5, g6]

theorem cadd_flt {a b c d : Nat} {x y u v : Int} (ha : Flt a x) (hb : Flt b y) (hc : Flt c u) (hd : Flt d v)
    (h1 : (x + u).natAbs < 2 ^ 53) (h2 : (y + v).natAbs < 2 ^ 53) : ∃ re im, cSumBits .add .f64 a b c d = some (re, im) ∧ Flt re (x + u) ∧ Flt im (y + v) := by
  obtain ⟨re, e1, f1⟩ := flt_sum ha hc h1
  obtain ⟨im, e2, f2⟩ := flt_sum hb hd h2
  refine ⟨re, im, ?_, f1, f2⟩
  have g1 : floatBits .add .f64 a c = some re := e1
  have g2 : floatBits .add .f64 b d = some im := e2
  simp [cSumBits, g1, g2]

theorem natAbs_mul_lt {x u : Int} {A B C : Nat} (hx : x.natAbs ≤ A) (hu : u.natAbs ≤ B) (h : A * B < C) : (x * u).natAbs < C := by
  rw [Int.natAbs_mul]
  exact Nat.lt_of_le_of_lt (Nat.mul_le_mul hx hu) h

/-- a product of a point up to 2^40 and one up to 1024 -/
theorem cmul_small {a b c d : Nat} {x y u v : Int} (ha : Flt a x) (hb : Flt b y) (hc : Flt c u) (hd : Flt d v)
    (hx : x.natAbs ≤ 1099511627776) (hy : y.natAbs ≤ 1099511627776) (hu : u.natAbs ≤ 1024) (hv : v.natAbs ≤ 1024) :
    ∃ re im, cMulBits a b c d = some (re, im) ∧ Flt re (x * u - y * v) ∧ Flt im (x * v + y * u) := by
  have h1 : (x * u).natAbs < 1125899906842625 := natAbs_mul_lt hx hu (by omega)
  have h2 : (y * v).natAbs < 1125899906842625 := natAbs_mul_lt hy hv (by omega)
  have h4 : (x * v).natAbs < 1125899906842625 := natAbs_mul_lt hx hv (by omega)
  have h5 : (y * u).natAbs < 1125899906842625 := natAbs_mul_lt hy hu (by omega)
  generalize hA : x * u = A at *
  generalize hB : y * v = B at *
  generalize hC : x * v = C at *
  generalize hD : y * u = D at *
  have e : (2 : Nat) ^ 53 = 9007199254740992 := by decide
  have := cmul_flt ha hb hc hd (by rw [hA, e]; omega) (by rw [hB, e]; omega) (by rw [hA, hB, e]; omega) (by rw [hC, e]; omega) (by rw [hD, e]; omega) (by rw [hC, hD, e]; omega)
  rw [hA, hB, hC, hD] at this
  exact this

theorem flt_neg {b : Nat} {n : Int} (h : Flt b n) : Flt (Op.negFloat .f64 b) (-n) := by
  obtain ⟨s, m, i, hr, hi, hv⟩ := h
  refine ⟨!s, m, i, ?_, hi, ?_⟩
  · obtain ⟨h1, h2, h3, h4⟩ := double_consts
    have e1 : (Op.negFloat .f64 b) % 2 ^ 63 = b % 2 ^ 63 := by
      show (b ^^^ 2 ^ 63) % 2 ^ 63 = b % 2 ^ 63
      rw [Nat.xor_mod_two_pow, Nat.mod_self, Nat.xor_zero]
    have e2 : (Op.negFloat .f64 b) / 2 ^ 63 % 2 = 1 - b / 2 ^ 63 % 2 := by
      show (b ^^^ 2 ^ 63) / 2 ^ 63 % 2 = 1 - b / 2 ^ 63 % 2
      rw [Nat.xor_div_two_pow, Nat.div_self (by decide)]
      generalize b / 2 ^ 63 = q
      have := Nat.xor_mod_two_pow (a := q) (b := 1) (n := 1)
      simp only [Nat.pow_one] at this
      rw [this]
      rcases Nat.mod_two_eq_zero_or_one q with h | h <;> rw [h] <;> decide
    have e3 : b / 2 ^ 63 % 2 = 0 ∨ b / 2 ^ 63 % 2 = 1 := Nat.mod_two_eq_zero_or_one _
    unfold Ieee.Format.read at hr ⊢
    rw [h1] at hr ⊢
    rw [e1, e2]
    generalize b / 2 ^ 63 % 2 = q at *
    generalize b % 2 ^ 63 = g at *
    simp only at hr ⊢
    split at hr
    · rename_i hlt
      rw [if_pos hlt]
      simp only [Ieee.Datum.number.injEq] at hr ⊢
      refine ⟨?_, hr.2⟩
      rw [← hr.1]
      rcases e3 with h | h <;> subst h <;> decide
    · rename_i hlt
      rw [if_neg hlt]
      split at hr
      · rename_i hlt2
        rw [if_pos hlt2]
        simp only [Ieee.Datum.number.injEq] at hr ⊢
        refine ⟨?_, hr.2⟩
        rw [← hr.1]
        rcases e3 with h | h <;> subst h <;> decide
      · split at hr <;> cases hr
  · rw [Int.neg_mul, ← hv, signed_zero, signed_zero]
    cases s <;> simp
end Go.Proofs.YtkpbnbnfgadkcaaGreatDoor
