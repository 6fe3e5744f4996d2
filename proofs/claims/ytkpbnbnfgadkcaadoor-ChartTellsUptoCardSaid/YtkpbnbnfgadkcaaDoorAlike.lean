/-
  Two drawings held against one another; a drawing's weight.
-/
import Derived.Test.YtkpbnbnfgadkcaaDoorRefC
import Derived.Test.YtkpbnbnfgadkcaaDoorNames
namespace Go.Proofs.YtkpbnbnfgadkcaaDoor
open Go.RowKit
set_option linter.unusedVariables false
set_option linter.unusedSimpArgs false

/-- the sum of all points -/
def sumX (l : List Spot) : Int := (l.map (·.x)).sum
def sumY (l : List Spot) : Int := (l.map (·.y)).sum
theorem sum_far {l : List Spot} (h : ∀ s ∈ l, s.x.natAbs ≤ 1099511627776 ∧ s.y.natAbs ≤ 1099511627776) : (sumX l).natAbs ≤ l.length * 1099511627776 ∧ (sumY l).natAbs ≤ l.length * 1099511627776 := by
  induction l with
  | nil => simp [sumX, sumY]
  | cons s l ih =>
    obtain ⟨h1, h2⟩ := h s (by simp)
    obtain ⟨h3, h4⟩ := ih (fun s hs => h s (by simp [hs]))
    simp only [sumX, sumY, List.map_cons, List.sum_cons, List.length_cons, Nat.succ_mul] at *
    omega
theorem sum_snoc (l : List Spot) (s : Spot) : sumX (l ++ [s]) = sumX l + s.x ∧ sumY (l ++ [s]) = sumY l + s.y := by
  simp [sumX, sumY]

def weightOf (l : List Spot) : Int × Int := if mayB l then (sumX l, sumY l) else (0, 0)
def weightErr (l : List Spot) : Int := if mayB l then 0 else 1

set_option maxHeartbeats 400000 in
theorem weight_any (A : Option Addr) (n c : Nat) (l : List Spot) (w : World) (S : Nat → Prop) (hn63 : n ≤ 9223372036854775807) (hl : SlV rSpot w S l (.slice A n c)) :
    Calls Tryd.prog 7 #[.slice A n c] w fun e w' => e = .returned (.tuple #[.int .i64 (weightOf l).1, .int .i64 (weightOf l).2, .int .i64 (weightErr l)]) ∧ Below w.heap.size w w' := by
  have hnx := hl.n_eq
  have Hc := Lib.hid (may_any A n c l w S hn63 hl)
  have Hnx := Lib.hid hnx; clear hnx
  by_cases hm : mayB l = true
  · rw [hm] at Hc
    have Hr1 : Hid ((weightOf l) = (sumX l, sumY l) ∧ weightErr l = 0) := by simp [Hid, weightOf, weightErr, hm]
    obtain ⟨h257, hfar⟩ := mayB_far hm
    have Hfar := Lib.hid hfar; clear hfar
    clear hm
    rw [Hr1.out.1, Hr1.out.2]
    go_enter Tryd.func7, Tryd.ntmps7
    go_wp2_with fail
    refine Hc.out.mono ?_
    rintro e w1 ⟨rfl, hbl⟩
    have hlv := hl.belowSize hbl
    have hl' := hlv.more (S' := fun b => b < w1.heap.size) fun b hb hlt => hlt
    clear hlv hl
    go_wp2_with fail
    go_loopw [5, 13] (fun z i wr => ∃ k : Nat, k ≤ n ∧ i = .int .i64 k ∧ (∃ re im, z = .complex .f64 re im ∧ Hid (Flt re (sumX (l.take k)) ∧ Flt im (sumY (l.take k)))) ∧ Below w1.heap.size w1 wr) (fun _ i _ => n - (intOf i).toNat)
    case atStart => exact ⟨0, Nat.zero_le _, rfl, ⟨0, 0, rfl, flt_zero, flt_zero⟩, Below.refl _ _⟩
    case round =>
      obtain ⟨k, hk, rfl, ⟨re, im, rfl, hf⟩, hbel⟩ := hrel
      by_cases hlt : k < n
      · have hkx : k < l.length := by have := Hnx.out; omega
        have hlw := hl'.below hbel (fun b hb => hb)
        obtain ⟨b, o, cs, rfl, hSb, hb1, hsp, hcell⟩ := hlw.elem (List.getElem?_eq_getElem hkx)
        obtain ⟨p, rfl, hp, hx, hy⟩ := hsp
        obtain ⟨pA, pc, rfl, _, _⟩ := hp.val
        have hc0 := hcell 0 _ rfl
        have hc1 := hcell 1 _ rfl
        have hc2 := hcell 2 _ rfl
        simp only [rSpot, Nat.add_zero] at hc0 hc1 hc2
        have hkn : (k : Int) < (n : Int) := by omega
        obtain ⟨hf1, hf2⟩ := Hfar.out l[k] (List.getElem_mem hkx)
        have e53 : (2 : Nat) ^ 53 = 9007199254740992 := by decide
        have hsum := sum_far (l := l.take (k + 1)) (fun s hs => Hfar.out s (List.mem_of_mem_take hs))
        have htk := List.take_succ_eq_append_getElem hkx
        have hss := sum_snoc (l.take k) l[k]
        rw [← htk] at hss
        have hlen : (l.take (k + 1)).length ≤ 257 := by simp; omega
        have hS := Nat.mul_le_mul_right 1099511627776 hlen
        rw [hss.1, hss.2] at hsum
        obtain ⟨zr, zi, hz, z1, z2⟩ := cadd_flt hf.out.1 hf.out.2 (flt_ofInt (n := (l[k]).x) (by rw [e53]; omega)) (flt_ofInt (n := (l[k]).y) (by rw [e53]; omega)) (by rw [e53]; omega) (by rw [e53]; omega)
        rw [← hss.1] at z1
        rw [← hss.2] at z2
        have hadd := fun W => run_complex_sum (P := Tryd.prog) W .add (.inl rfl) 46 .f64 re im _ _ zr zi hz
        have Hz : Hid (Flt zr (sumX (l.take (k + 1))) ∧ Flt zi (sumY (l.take (k + 1)))) := ⟨z1, z2⟩
        clear hsum hss hS hlen htk z1 z2 hz hf hp hx hy hcell hlw hf1 hf2
        generalize (l[k]).path.length = pn at *
        generalize (l[k]).x = x at *
        generalize (l[k]).y = y at *
        go_wp2_with fail
        refine (point_any _ _ _ _).mono ?_
        rintro e w2 ⟨rfl, hb2⟩
        go_wp2_with fail
        go_roundw
        case rel => exact ⟨k + 1, by omega, by go_num, ⟨zr, zi, rfl, Hz.out⟩, (hbel.alloc hbel.size _).trans (hb2.mono (by simp; exact Nat.le_succ_of_le hbel.size))⟩
        case measure => simp [intOf]; omega
      · have hkn : k = l.length := by have := Hnx.out; omega
        have h1 := hf.out
        rw [hkn, List.take_length] at h1
        have hsum := sum_far (l := l) Hfar.out
        have hS := Nat.mul_le_mul_right 1099511627776 h257
        have e53 : (2 : Nat) ^ 53 = 9007199254740992 := by decide
        have hcx := fun W => run_convert_float_int (P := Tryd.prog) W 48 3 .f64 .i64 re (sumX l) (by kernel_rfl) Tryd.underlying3 (flt_floatToInt h1.1 (by rw [e53]; omega))
        have hcy := fun W => run_convert_float_int (P := Tryd.prog) W 48 3 .f64 .i64 im (sumY l) (by kernel_rfl) Tryd.underlying3 (flt_floatToInt h1.2 (by rw [e53]; omega))
        clear h1 hsum hS hkn hf
        go_wp2
        go_ret3
        exact ⟨rfl, hbl.trans (hbel.mono hbl.size)⟩
  · rw [Bool.not_eq_true] at hm
    rw [hm] at Hc
    have Hr1 : Hid ((weightOf l) = (0, 0) ∧ weightErr l = 1) := by simp [Hid, weightOf, weightErr, hm]
    clear hm hl
    rw [Hr1.out.1, Hr1.out.2]
    go_enter Tryd.func7, Tryd.ntmps7
    go_wp2_with fail
    refine Hc.out.mono ?_
    rintro e w1 ⟨rfl, hbl⟩
    go_wp2
    go_ret3
    exact ⟨rfl, hbl⟩
end Go.Proofs.YtkpbnbnfgadkcaaDoor
