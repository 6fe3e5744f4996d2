/-
  The law ChartRows, walked.
-/
import Derived.Test.YtkpbnbnfgadkcaaGreatDoorDrawC
set_option autoImplicit false
set_option relaxedAutoImplicit false
set_option linter.unusedVariables false
set_option linter.unusedSimpArgs false
namespace Go.Proofs.YtkpbnbnfgadkcaaGreatDoor
open Go.Rows Go.RowKit Go.Shelf Go.Sort

theorem longF_le {t : List Dir} (h : checkE t = 0) (k : Nat) : longF t k ≤ 1048576 := by
  rcases longF_is t k with h0 | ⟨j, hj, he⟩
  · omega
  · rw [← he]
    by_cases hjt : j < t.length
    · have := dep_le h (j + 1) j (by omega) hjt
      have := (check_len h).2
      omega
    · unfold dep
      rw [List.getElem?_eq_none (by omega)]
      exact Nat.zero_le _
theorem bareF_le (t : List Dir) : ∀ k, bareF t k ≤ k := by
  intro k
  induction k with
  | zero => exact Nat.le_refl _
  | succ k ih => rw [bareF]; split <;> omega

set_option maxHeartbeats 3200000 in
set_option maxRecDepth 100000 in
theorem chartRows_no (A : Option Addr) (n c : Nat) (xs : List Dir) (w : World) (ht : Tab w) (hx : SlV rDir w (fun b => b < w.heap.size) xs (.slice A n c)) (hlen : ∀ d ∈ xs, d.path.length * 32 ≤ 140737488355328) (hnb : xs.length ≤ 1048576) (h : checkE xs ≠ 0) :
    Calls Tryz.prog 6 #[.agg #[.slice A n c]] w fun e w' => e = .returned (.bool true) ∧ Below w.heap.size w w' := by
  have hr : drawnR xs 0 = none := by unfold drawnR; rw [if_neg h]
  have Hd : Hid (∀ W, Below w.heap.size w W → Calls Tryz.prog 7 #[.agg #[.slice A n c], .int .i64 0] W fun e w' => ∃ v, e = .returned (.tuple #[v, .int .i64 42]) ∧ SlV rSpot w' (fun _ => True) [] v ∧ Below W.heap.size W w') := fun W hW => by
    have := draw_any A n c xs 0 W (tab_below ht hW) ((hx.belowSize hW).more fun b _ h => h) hlen hnb (by unfold I64; omega)
    rw [hr] at this
    exact this
  have Hck : Hid (∀ W, Below w.heap.size w W → Calls Tryz.prog 11 #[.agg #[.slice A n c]] W fun e w' => e = .returned (.int .i64 (checkE xs)) ∧ Below W.heap.size W w') := fun W hW => refCheck_any A n c xs W _ hlen (hx.belowSize hW)
  have hne : (checkE xs != 0) = true := by simpa using h
  clear hr hx hlen hnb ht h
  generalize checkE xs = E at *
  go_enter Tryz.func6, Tryz.ntmps6
  go_wp2_with fail
  obtain ⟨w0, hw0⟩ : ∃ w0, w0 = w.alloc (.cells #[.slice A n c] 24) := ⟨_, rfl⟩
  have hz : w.heap.size < w0.heap.size := by rw [hw0]; simp [go_sem]
  have HB0 : Hid (Below w.heap.size w w0) := by unfold Hid; rw [hw0]; exact bal (Below.refl _ _) _
  have a0 : w0.cell? ⟨w.heap.size, 0, none⟩ = some (.slice A n c) := by rw [hw0]; simp [go_sem]
  rw [← hw0]
  clear hw0
  refine (Hd.out w0 HB0.out).mono ?_
  rintro e w1 ⟨v1, rfl, hv1, B1⟩
  obtain ⟨A1, c1, hve, _, _⟩ := hv1.val
  simp only [List.length_nil] at hve
  have a1 := below_cell B1 a0 hz
  have HB1 := Lib.hid (bot HB0.out B1)
  have HL1 := Lib.hid hv1
  rw [hve] at HL1
  subst hve
  clear hv1 B1 a0 HB0
  have Hbx : Hid (∀ W, Below w1.heap.size w1 W → Calls Tryz.prog 17 #[.slice A1 0 c1] W fun e w' => e = .returned (.tuple #[boxV [], .int .i64 0]) ∧ Below W.heap.size W w') := fun W hW => box_ok A1 0 c1 [] W _ (by omega) rfl (HL1.out.belowSize hW)
  unfold boxV at Hbx
  generalize lo (·.x) [] = b0 at *
  generalize lo (·.y) [] = b1 at *
  generalize hi (·.x) [] = b2 at *
  generalize hi (·.y) [] = b3 at *
  clear HL1
  go_wp2_with fail
  refine (Hbx.out w1 (Below.refl _ _)).mono ?_
  rintro e w2 ⟨rfl, B2⟩
  have a2 := below_cell B2 a1 (cell_lt a1)
  have HB2 := Lib.hid (bot HB1.out B2)
  clear B2 a1 HB1 Hbx
  go_wp2_with fail
  refine (known_any _).mono ?_
  rintro e w3 ⟨rfl, B3⟩
  have HB3 : Hid (Below w.heap.size w w3) := bot HB2.out (bnew B3)
  have a3 := below_cell (bnew B3) a2 (cell_lt a2)
  clear B3 a2 HB2
  go_wp2_with fail
  refine (Hck.out w3 HB3.out).mono ?_
  rintro e w4 ⟨rfl, B4⟩
  have HB4 := Lib.hid (bot HB3.out B4)
  clear B4
  go_wp2_with fail
  go_ret
  exact ⟨rfl, HB4.out⟩

set_option maxHeartbeats 6400000 in
set_option maxRecDepth 100000 in
theorem chartRows_yes (A : Option Addr) (n c : Nat) (xs : List Dir) (w : World) (ht : Tab w) (hx : SlV rDir w (fun b => b < w.heap.size) xs (.slice A n c)) (hlen : ∀ d ∈ xs, d.path.length * 32 ≤ 140737488355328) (hnb : xs.length ≤ 1048576) (h : checkE xs = 0) :
    Calls Tryz.prog 6 #[.agg #[.slice A n c]] w fun e w' => e = .returned (.bool true) ∧ Below w.heap.size w w' := by
  have hnx := hx.n_eq
  have hn63 : n ≤ 1048576 := by omega
  have hr : drawnR xs 0 = some (drawS xs) := by
    unfold drawnR; rw [if_pos h, show turnF 0 = id from funext turnF_zero, List.map_id]
  have Hd : Hid (∀ W, Below w.heap.size w W → Calls Tryz.prog 7 #[.agg #[.slice A n c], .int .i64 0] W fun e w' => ∃ v, e = .returned (.tuple #[v, .int .i64 0]) ∧ SlV rSpot w' (fun _ => True) (drawS xs) v ∧ Below W.heap.size W w') := fun W hW => by
    have := draw_any A n c xs 0 W (tab_below ht hW) ((hx.belowSize hW).more fun b _ h => h) hlen hnb (by unfold I64; omega)
    rw [hr] at this
    exact this
  have Hbx : Hid (∀ A1 c1 W, SlV rSpot W (fun _ => True) (drawS xs) (.slice A1 (drawS xs).length c1) → Calls Tryz.prog 17 #[.slice A1 (drawS xs).length c1] W fun e w' => e = .returned (.tuple #[.agg #[.int .i64 0, .int .i64 0, .int .i64 (longF xs n), .int .i64 ((bareF xs n : Int) - 1)], .int .i64 0]) ∧ Below W.heap.size W w') := fun A1 c1 W hv => by
    have := box_ok A1 (drawS xs).length c1 (drawS xs) W _ (by rw [drawS_length h]; omega) (drawS_may h) hv
    rw [drawS_box h, ← hnx] at this
    exact this
  have Hin : Hid (∀ i W, Below w.heap.size w W → Calls Tryz.prog 18 #[.agg #[.slice A n c], .int .i64 i] W fun e w' => (∃ v, e = .returned v ∧ SlV rInt w' (fun b => W.heap.size ≤ b) (castL (insideI xs i)) v) ∧ Below W.heap.size W w') := fun i W hW => refInside_any _ _ _ xs i W _ (hx.belowSize hW) hlen hnb
  have HX := Lib.hid hx
  have Hnx := Lib.hid hnx
  have Hlg : Hid (∀ k, longF xs k ≤ 1048576) := longF_le h
  have hln := bareF_le xs n
  have hlg := longF_le h n
  clear hr hx hlen hnb ht h hnx
  generalize drawS xs = D at *
  obtain ⟨dl, hdl⟩ : ∃ dl, dl = D.length := ⟨_, rfl⟩
  rw [← hdl] at Hbx
  have Hdl := Lib.hid hdl
  clear hdl
  obtain ⟨LG, hLG⟩ : ∃ LG, LG = longF xs n := ⟨_, rfl⟩
  obtain ⟨BR, hBR⟩ : ∃ BR, BR = bareF xs n := ⟨_, rfl⟩
  rw [← hLG] at Hbx hlg
  rw [← hBR] at Hbx hln
  have HLG := Lib.hid hLG
  have HBR := Lib.hid hBR
  clear hLG hBR
  go_enter Tryz.func6, Tryz.ntmps6
  go_wp2_with fail
  obtain ⟨w0, hw0⟩ : ∃ w0, w0 = w.alloc (.cells #[.slice A n c] 24) := ⟨_, rfl⟩
  have hz : w.heap.size < w0.heap.size := by rw [hw0]; simp [go_sem]
  have HB0 : Hid (Below w.heap.size w w0) := by unfold Hid; rw [hw0]; exact bal (Below.refl _ _) _
  have a0 : w0.cell? ⟨w.heap.size, 0, none⟩ = some (.slice A n c) := by rw [hw0]; simp [go_sem]
  rw [← hw0]
  clear hw0
  refine (Hd.out w0 HB0.out).mono ?_
  rintro e w1 ⟨v1, rfl, hv1, B1⟩
  obtain ⟨A1, c1, hve, _, _⟩ := hv1.val
  rw [← Hdl.out] at hve
  have a1 := below_cell B1 a0 hz
  have HB1 := Lib.hid (bot HB0.out B1)
  rw [hve] at hv1
  have Hb := Lib.hid (Hbx.out A1 c1 w1 hv1)
  subst hve
  clear hv1 B1 a0 HB0 Hbx Hd
  go_wp2_with fail
  refine Hb.out.mono ?_
  rintro e w2 ⟨rfl, B2⟩
  have a2 := below_cell B2 a1 (cell_lt a1)
  have HB2 := Lib.hid (bot HB1.out B2)
  clear B2 a1 HB1 Hb
  go_wp2_with fail
  obtain ⟨w3, hw3⟩ : ∃ w3, w3 = w2.alloc (.cells #[.int .i64 0, .int .i64 0, .int .i64 (LG : Int), .int .i64 ((BR : Int) - 1)] 47) := ⟨_, rfl⟩
  have f0 : w3.cell? ⟨w2.heap.size, 0, none⟩ = some (.int .i64 0) := by rw [hw3]; simp [go_sem]
  have f1 : w3.cell? ⟨w2.heap.size, 1, none⟩ = some (.int .i64 0) := by rw [hw3]; simp [go_sem]
  have f2 : w3.cell? ⟨w2.heap.size, 2, none⟩ = some (.int .i64 (LG : Int)) := by rw [hw3]; simp [go_sem]
  have f3 : w3.cell? ⟨w2.heap.size, 3, none⟩ = some (.int .i64 ((BR : Int) - 1)) := by rw [hw3]; simp [go_sem]
  have a3 : w3.cell? ⟨w.heap.size, 0, none⟩ = some (.slice A n c) := by rw [hw3]; exact below_cell (bal (Below.refl _ _) _) a2 (cell_lt a2)
  have HB3 : Hid (Below w.heap.size w w3) := by unfold Hid; rw [hw3]; exact bal HB2.out _
  rw [← hw3]
  clear hw3 a2 HB2
  generalize w2.heap.size = g at *
  refine (known_any _).mono ?_
  rintro e w4 ⟨rfl, B4⟩
  have HB4 := Lib.hid (bot HB3.out B4)
  have a4 := below_cell B4 a3 (cell_lt a3)
  have g0 := below_cell B4 f0 (cell_lt f0)
  have g1 := below_cell B4 f1 (cell_lt f1)
  have g2 := below_cell B4 f2 (cell_lt f2)
  have g3 := below_cell B4 f3 (cell_lt f3)
  clear B4 a3 HB3 f0 f1 f2 f3
  have HC : Hid (w4.cell? ⟨w.heap.size, 0, none⟩ = some (.slice A n c) ∧ w4.cell? ⟨g, 0, none⟩ = some (.int .i64 0) ∧ w4.cell? ⟨g, 1, none⟩ = some (.int .i64 0) ∧ w4.cell? ⟨g, 2, none⟩ = some (.int .i64 (LG : Int)) ∧ w4.cell? ⟨g, 3, none⟩ = some (.int .i64 ((BR : Int) - 1))) := ⟨a4, g0, g1, g2, g3⟩
  clear a4 g0 g1 g2 g3
  go_wp2_with fail
  go_loopw [7, 8, 9] (fun br lg i wr => ∃ k l b : Nat, k ≤ n ∧ l ≤ 1048576 ∧ b ≤ k ∧ br = .int .i64 b ∧ lg = .int .i64 l ∧ i = .int .i64 k ∧ Hid (l = longF xs k ∧ b = bareF xs k) ∧ Hid (Below w4.heap.size w4 wr)) (fun _ _ i _ => n - (intOf i).toNat)
  case atStart => exact ⟨0, 0, 0, Nat.zero_le _, Nat.zero_le _, Nat.zero_le _, rfl, rfl, rfl, ⟨rfl, rfl⟩, Below.refl _ _⟩
  case round =>
    obtain ⟨k, l, b, hk, hl, hb, rfl, rfl, rfl, HV, HBl⟩ := hrel
    have b0 := below_cell HBl.out HC.out.1 (cell_lt HC.out.1)
    have HBw := Lib.hid (bot HB4.out HBl.out)
    by_cases hlt : k < n
    case neg =>
      obtain rfl : k = n := by omega
      have hlt' : ¬ (k : Int) < (k : Int) := by omega
      have g0 := below_cell HBl.out HC.out.2.1 (cell_lt HC.out.2.1)
      have g1 := below_cell HBl.out HC.out.2.2.1 (cell_lt HC.out.2.2.1)
      have g2 := below_cell HBl.out HC.out.2.2.2.1 (cell_lt HC.out.2.2.2.1)
      have g3 := below_cell HBl.out HC.out.2.2.2.2 (cell_lt HC.out.2.2.2.2)
      have e1 : l = LG := by rw [HV.out.1, HLG.out]
      have e2 : b = BR := by rw [HV.out.2, HBR.out]
      clear HLG HBR HV
      subst e1 e2
      have hll : ((l : Int) == (l : Int)) = true := by simp
      have hww : IntKind.i64.wrap ((b : Int) - 1) = (b : Int) - 1 := IntWalk.i64_in _ ⟨by omega, by omega⟩
      have hbb : ((b : Int) - 1 == (b : Int) - 1) = true := by simp
      clear HC
      go_wp2_with fail
      go_ret
      exact ⟨rfl, HBw.out⟩
    have hkx : k < xs.length := by have := Hnx.out; omega
    have hkI : (k : Int) < (n : Int) := by omega
    have hk0 : (0 : Int) ≤ (k : Int) := by omega
    obtain ⟨pb, po, cs, hAe, _, hb1, hh, hcell⟩ := HX.out.elem (List.getElem?_eq_getElem hkx)
    obtain ⟨s0, s1, s2, s3, rfl, hpp, _, _, _, _, _, _, _, _⟩ := hh
    obtain ⟨pA, pc, rfl, _, hpm⟩ := hpp.val
    have c1 := below_cell HBw.out (hcell 0 _ rfl) hb1
    simp only [rDir, Nat.add_zero] at c1
    have hpl : xs[k].path.length = dep xs k := (dep_at hkx).symm
    rw [hpl] at c1
    have HLs : Hid (longF xs (k + 1) = if longF xs k < dep xs k then dep xs k else longF xs k) := rfl
    have Hi := Lib.hid (fun W (hW : Below w.heap.size w W) => Hin.out (k : Int) W hW)
    rw [insideI_nat] at Hi
    have HBs : Hid (bareF xs (k + 1) = if insideL xs k = [] then bareF xs k + 1 else bareF xs k) := rfl
    have hl9 := Hlg.out (k + 1)
    clear hcell hpp hpl
    subst hAe
    obtain ⟨dp, hdp⟩ : ∃ dp, dp = dep xs k := ⟨_, rfl⟩
    rw [← hdp] at c1 HLs
    obtain ⟨l9, hl9e⟩ : ∃ l9, l9 = longF xs (k + 1) := ⟨_, rfl⟩
    rw [← hl9e] at hl9 HLs
    have HL9 := Lib.hid hl9e
    clear hdp hl9e
    have fin : ∀ b9 : Nat, b9 = (if insideL xs k = [] then b + 1 else b) → b9 ≤ k + 1 ∧ b9 = bareF xs (k + 1) := fun b9 h9 => by
      rw [HBs.out, ← HV.out.2]
      refine ⟨?_, h9⟩
      rw [h9]; split <;> omega
    have Fin := Lib.hid fin
    have hl2 : l9 = if l < dp then dp else l := by rw [HLs.out, HV.out.1]
    clear fin HBs HLs HV
    generalize insideL xs k = L at *
    have step : ∀ (wr' : World) (b9 : Nat), Below wr.heap.size wr wr' → True := fun _ _ _ => trivial
    clear step
    by_cases hgt : l < dp
    · rw [if_pos hgt] at hl2
      have hgI : (l : Int) < (dp : Int) := by omega
      subst hl2
      go_wp2_with fail
      refine (Hi.out wr HBw.out).mono ?_
      rintro e w5 ⟨⟨v, rfl, hv⟩, B5⟩
      obtain ⟨vA, vc, rfl, _, _⟩ := hv.val
      have hcl : (castL L).length = L.length := by unfold castL; rw [List.length_map]
      rw [hcl]
      have HB5 := Lib.hid (bot HBl.out B5)
      clear B5 hv hcl b0 c1
      by_cases hL : L = []
      · subst hL
        rw [if_pos rfl] at Fin
        obtain ⟨h1, h2⟩ := Fin.out _ rfl
        have H2 := Lib.hid h2
        clear h2 Fin
        go_wp2_with fail
        go_roundw
        case rel => exact ⟨k + 1, _, b + 1, by omega, hl9, h1, by go_num, rfl, by go_num, ⟨HL9.out, H2.out⟩, HB5⟩
        case measure => simp [intOf]; omega
      · rw [if_neg hL] at Fin
        obtain ⟨h1, h2⟩ := Fin.out _ rfl
        have H2 := Lib.hid h2
        have hn0 : L.length ≠ 0 := fun e => hL (List.eq_nil_of_length_eq_zero e)
        have hn0' : ((L.length : Int) == 0) = false := by simp; exact hL
        clear h2 Fin hL
        generalize L.length = ln at *
        go_wp2_with fail
        go_roundw
        case rel => exact ⟨k + 1, _, b, by omega, hl9, h1, rfl, rfl, by go_num, ⟨HL9.out, H2.out⟩, HB5⟩
        case measure => simp [intOf]; omega
    · rw [if_neg hgt] at hl2
      have hgI : ¬ (l : Int) < (dp : Int) := by omega
      subst hl2
      go_wp2_with fail
      refine (Hi.out wr HBw.out).mono ?_
      rintro e w5 ⟨⟨v, rfl, hv⟩, B5⟩
      obtain ⟨vA, vc, rfl, _, _⟩ := hv.val
      have hcl : (castL L).length = L.length := by unfold castL; rw [List.length_map]
      rw [hcl]
      have HB5 := Lib.hid (bot HBl.out B5)
      clear B5 hv hcl b0 c1
      by_cases hL : L = []
      · subst hL
        rw [if_pos rfl] at Fin
        obtain ⟨h1, h2⟩ := Fin.out _ rfl
        have H2 := Lib.hid h2
        clear h2 Fin
        go_wp2_with fail
        go_roundw
        case rel => exact ⟨k + 1, _, b + 1, by omega, hl9, h1, by go_num, rfl, by go_num, ⟨HL9.out, H2.out⟩, HB5⟩
        case measure => simp [intOf]; omega
      · rw [if_neg hL] at Fin
        obtain ⟨h1, h2⟩ := Fin.out _ rfl
        have H2 := Lib.hid h2
        have hn0 : L.length ≠ 0 := fun e => hL (List.eq_nil_of_length_eq_zero e)
        have hn0' : ((L.length : Int) == 0) = false := by simp; exact hL
        clear h2 Fin hL
        generalize L.length = ln at *
        go_wp2_with fail
        go_roundw
        case rel => exact ⟨k + 1, _, b, by omega, hl9, h1, rfl, rfl, by go_num, ⟨HL9.out, H2.out⟩, HB5⟩
        case measure => simp [intOf]; omega

theorem chartRows_any (A : Option Addr) (n c : Nat) (xs : List Dir) (w : World) (ht : Tab w) (hx : SlV rDir w (fun b => b < w.heap.size) xs (.slice A n c)) (hlen : ∀ d ∈ xs, d.path.length * 32 ≤ 140737488355328) (hnb : xs.length ≤ 1048576) :
    Calls Tryz.prog 6 #[.agg #[.slice A n c]] w fun e w' => e = .returned (.bool true) ∧ Below w.heap.size w w' := by
  by_cases h : checkE xs = 0
  · exact chartRows_yes A n c xs w ht hx hlen hnb h
  · exact chartRows_no A n c xs w ht hx hlen hnb h
end Go.Proofs.YtkpbnbnfgadkcaaGreatDoor
