/-
  The document's Weight and Box of a drawing, walked.
-/
import Derived.Test.YtkpbnbnfgadkcaaDoorAlike
import Derived.Test.YtkpbnbnfgadkcaaDoorBox
set_option autoImplicit false
set_option relaxedAutoImplicit false
set_option linter.unusedVariables false
set_option linter.unusedSimpArgs false
namespace Go.Proofs.YtkpbnbnfgadkcaaDoor
open Go.RowKit

set_option maxHeartbeats 400000 in
theorem refWeight_any (A : Option Addr) (n c : Nat) (l : List Spot) (w : World) (S : Nat → Prop) (hn63 : n ≤ 9223372036854775807) (hl : SlV rSpot w S l (.slice A n c)) :
    Calls Tryd.prog 8 #[.slice A n c] w fun e w' => e = .returned (.tuple #[.int .i64 (weightOf l).1, .int .i64 (weightOf l).2, .int .i64 (weightErr l)]) ∧ w = w' := by
  have hnx := hl.n_eq
  have Hc := Lib.hid (refMay_any A n c l w S hn63 hl)
  have Hnx := Lib.hid hnx; clear hnx
  by_cases hm : mayB l = true
  · rw [hm] at Hc
    have Hr1 : Hid ((weightOf l) = (sumX l, sumY l) ∧ weightErr l = 0) := by simp [Hid, weightOf, weightErr, hm]
    obtain ⟨h257, hfar⟩ := mayB_far hm
    have Hfar := Lib.hid hfar; clear hfar
    have H257 := Lib.hid h257; clear h257
    clear hm
    rw [Hr1.out.1, Hr1.out.2]
    go_enter Tryd.func8, Tryd.ntmps8
    go_wp2_with fail
    refine Hc.out.mono ?_
    rintro e w1 ⟨rfl, rfl⟩
    go_wp2_with fail
    go_loop [5, 6, 7] (fun sx sy i => ∃ k : Nat, k ≤ n ∧ i = .int .i64 k ∧ sx = .int .i64 (sumX (l.take k)) ∧ sy = .int .i64 (sumY (l.take k))) (fun _ _ i => n - (intOf i).toNat)
    case atStart => exact ⟨0, Nat.zero_le _, rfl, rfl, rfl⟩
    case round =>
      obtain ⟨k, hk, rfl, rfl, rfl⟩ := hrel
      by_cases hlt : k < n
      · have hkx : k < l.length := by have := Hnx.out; omega
        obtain ⟨b, o, cs, rfl, hSb, hb1, hsp, hcell⟩ := hl.elem (List.getElem?_eq_getElem hkx)
        obtain ⟨p, rfl, hp, hx, hy⟩ := hsp
        have hc1 := hcell 1 _ rfl
        have hc2 := hcell 2 _ rfl
        simp only [rSpot, Nat.add_zero] at hc1 hc2
        have hkn : (k : Int) < (n : Int) := by omega
        have hf := Hfar.out l[k] (List.getElem_mem hkx)
        have hsum := sum_far (l := l.take k) (fun s hs => Hfar.out s (List.mem_of_mem_take hs))
        have hss := sum_snoc (l.take k) l[k]
        rw [← List.take_succ_eq_append_getElem hkx] at hss
        have Hss := Lib.hid hss; clear hss
        have hlen : (l.take k).length ≤ 257 := by have := H257.out; simp; omega
        have hS := Nat.mul_le_mul_right 1099511627776 hlen
        clear hp hx hy hcell hlen
        generalize sumX (l.take k) = sx at *
        generalize sumY (l.take k) = sy at *
        generalize (l[k]).x = x at *
        generalize (l[k]).y = y at *
        have h1 : -400000000000000 ≤ sx ∧ sx ≤ 400000000000000 := by omega
        have h2 : -400000000000000 ≤ sy ∧ sy ≤ 400000000000000 := by omega
        have h3 : -1099511627776 ≤ x ∧ x ≤ 1099511627776 := by omega
        have h4 : -1099511627776 ≤ y ∧ y ≤ 1099511627776 := by omega
        obtain ⟨h1a, h1b⟩ := h1
        obtain ⟨h2a, h2b⟩ := h2
        obtain ⟨h3a, h3b⟩ := h3
        obtain ⟨h4a, h4b⟩ := h4
        clear hf hsum hS
        go_wp2
        go_round
        case rel => exact ⟨k + 1, by omega, by go_num, by rw [Hss.out.1], by rw [Hss.out.2]⟩
        case measure => simp [intOf]; omega
      · have hkn : k = l.length := by have := Hnx.out; omega
        have Hv : Hid (l.take k = l) := by unfold Hid; rw [hkn, List.take_length]
        rw [Hv.out]
        clear hkn
        go_wp2
        go_ret3
        exact ⟨rfl, rfl⟩
  · rw [Bool.not_eq_true] at hm
    rw [hm] at Hc
    have Hr1 : Hid ((weightOf l) = (0, 0) ∧ weightErr l = 1) := by simp [Hid, weightOf, weightErr, hm]
    clear hm hl
    rw [Hr1.out.1, Hr1.out.2]
    go_enter Tryd.func8, Tryd.ntmps8
    go_wp2_with fail
    refine Hc.out.mono ?_
    rintro e w1 ⟨rfl, rfl⟩
    go_wp2
    go_ret3
    exact ⟨rfl, rfl⟩

theorem F4.far {w : World} {B B' : Nat} {a b c d : Int} (h : F4 w B a b c d) (hne : B ≠ B') (a' b' c' d' : Value) :
    F4 ((((w.setCell ⟨B', 0, none⟩ a').setCell ⟨B', 1, none⟩ b').setCell ⟨B', 2, none⟩ c').setCell ⟨B', 3, none⟩ d') B a b c d := by
  obtain ⟨⟨d0, d1, d2, d3⟩, g0, g1, g2, g3⟩ := h
  refine ⟨⟨?_, ?_, ?_, ?_⟩, ?_, ?_, ?_, ?_⟩ <;> simp [go_sem, d0, d1, d2, d3, g0, g1, g2, g3, hne, Ne.symm hne]

def zeroV : Value := .agg #[.int .i64 0, .int .i64 0, .int .i64 0, .int .i64 0]
def boxR (l : List Spot) : Value := if mayB l then boxV l else zeroV
def boxErr (l : List Spot) : Int := if mayB l then 0 else 1

set_option maxHeartbeats 1000000 in
theorem refBox_any (A : Option Addr) (n c : Nat) (l : List Spot) (w : World) (S : Nat → Prop) (hn63 : n ≤ 9223372036854775807) (hl : SlV rSpot w S l (.slice A n c)) :
    Calls Tryd.prog 6 #[.slice A n c] w fun e w' => e = .returned (.tuple #[boxR l, .int .i64 (boxErr l)]) ∧ Below w.heap.size w w' := by
  have hnx := hl.n_eq
  have Hc : Hid (∀ o o', Calls Tryd.prog 13 #[.slice A n c] ((w.alloc o).alloc o') fun e w' => e = .returned (.bool (mayB l)) ∧ (w.alloc o).alloc o' = w') := fun o o' => refMay_any A n c l _ S hn63 ((hl.alloc o).alloc o')
  have Hnx := Lib.hid hnx; clear hnx
  have hl' := hl.more (S' := fun b => b < w.heap.size) fun b _ hlt => hlt
  clear hl
  cases hm : mayB l
  · rw [hm] at Hc
    have Hr : Hid (boxR l = zeroV ∧ boxErr l = 1) := by simp [Hid, boxR, boxErr, hm]
    clear hm hl'
    rw [Hr.out.1, Hr.out.2]
    go_enter Tryd.func6, Tryd.ntmps6
    go_wp2_with fail
    refine (Hc.out _ _).mono ?_
    rintro e w1 ⟨rfl, hw⟩
    have hF : F4 w1 (w.heap.size + 1) 0 0 0 0 := by subst hw; refine ⟨⟨?_, ?_, ?_, ?_⟩, ?_, ?_, ?_, ?_⟩ <;> simp [go_sem]
    have hR : F4 w1 w.heap.size 0 0 0 0 := by subst hw; refine ⟨⟨?_, ?_, ?_, ?_⟩, ?_, ?_, ?_, ?_⟩ <;> simp [go_sem]
    have hB : Below w.heap.size w w1 := by subst hw; exact ((Below.refl _ _).alloc (Nat.le_refl _) _).alloc (by simp) _
    clear hw
    obtain ⟨⟨d0, d1, d2, d3⟩, g0, g1, g2, g3⟩ := hF
    obtain ⟨⟨r0, r1, r2, r3⟩, s0, s1, s2, s3⟩ := hR
    go_wp2
    refine bodyPost_ret (v := .tuple #[zeroV, .int .i64 1]) (by simp [results, Tryd.results6, go_sem, zeroV, r0, r1, r2, r3]) rfl ⟨rfl, ?_⟩
    exact (((hB.setCell (by simp) _).setCell (by simp) _).setCell (by simp) _).setCell (by simp) _
  · rw [hm] at Hc
    have Hr : Hid (boxR l = boxV l ∧ boxErr l = 0) := by simp [Hid, boxR, boxErr, hm]
    clear hm
    rw [Hr.out.1, Hr.out.2]
    go_enter Tryd.func6, Tryd.ntmps6
    go_wp2_with fail
    refine (Hc.out _ _).mono ?_
    rintro e w1 ⟨rfl, hw⟩
    have hF : F4 w1 (w.heap.size + 1) 0 0 0 0 := by subst hw; refine ⟨⟨?_, ?_, ?_, ?_⟩, ?_, ?_, ?_, ?_⟩ <;> simp [go_sem]
    have hR : F4 w1 w.heap.size 0 0 0 0 := by subst hw; refine ⟨⟨?_, ?_, ?_, ?_⟩, ?_, ?_, ?_, ?_⟩ <;> simp [go_sem]
    have hB : Below w.heap.size w w1 := by subst hw; exact ((Below.refl _ _).alloc (Nat.le_refl _) _).alloc (by simp) _
    have hz : w.heap.size + 2 ≤ w1.heap.size := by subst hw; simp
    clear hw
    generalize hB1 : w.heap.size + 1 = B1 at *
    have hb1 : w.heap.size < B1 := by omega
    have hz1 : B1 < w1.heap.size := by omega
    have hBle : w.heap.size ≤ B1 := Nat.le_of_lt hb1
    clear hB1 hz
    have HF := Lib.hid hF; clear hF
    have HR := Lib.hid hR; clear hR
    go_wp2_with fail
    go_loopw [5] (fun i wr => ∃ k : Nat, k ≤ n ∧ i = .int .i64 k ∧ Hid (F4 wr B1 (lo (·.x) (l.take k)) (lo (·.y) (l.take k)) (hi (·.x) (l.take k)) (hi (·.y) (l.take k))) ∧ Hid (F4 wr w.heap.size 0 0 0 0) ∧ Below w.heap.size w wr ∧ B1 < wr.heap.size) (fun i _ => n - (intOf i).toNat)
    case atStart => exact ⟨0, Nat.zero_le _, rfl, HF, HR, hB, hz1⟩
    case round =>
      clear HF HR hB hz1
      obtain ⟨k, hk, rfl, HF, HR, hbel, hzr⟩ := hrel
      obtain ⟨⟨d0, d1, d2, d3⟩, g0, g1, g2, g3⟩ := HF.out
      have hne : B1 ≠ wr.heap.size := by omega
      have hne' : w.heap.size ≠ wr.heap.size := by omega
      by_cases hlt : k < n
      · have hkx : k < l.length := by have := Hnx.out; omega
        have hlw := hl'.below hbel (fun b h => h)
        obtain ⟨b, o, cs, rfl, hSb, hb1, hsp, hcell⟩ := hlw.elem (List.getElem?_eq_getElem hkx)
        obtain ⟨p, rfl, hp, hx, hy⟩ := hsp
        obtain ⟨pA, pc, rfl, _, _⟩ := hp.val
        have hc0 := hcell 0 _ rfl
        have hc1 := hcell 1 _ rfl
        have hc2 := hcell 2 _ rfl
        simp only [rSpot, Nat.add_zero] at hc0 hc1 hc2
        clear hp hx hy hcell hlw
        have hkn : (k : Int) < (n : Int) := by omega
        by_cases hk0 : k = 0
        · have hk0' : ((k : Int) == 0) = true := by simp [hk0]
          have hst : Hid (lo (·.x) (l.take (k + 1)) = mn (l[k]).x (l[k]).x ∧ lo (·.y) (l.take (k + 1)) = mn (l[k]).y (l[k]).y ∧ hi (·.x) (l.take (k + 1)) = mx (l[k]).x (l[k]).x ∧ hi (·.y) (l.take (k + 1)) = mx (l[k]).y (l[k]).y) := by
            subst hk0; exact box_first hkx
          clear hk0
          generalize (l[k]).path.length = pn at *
          generalize (l[k]).x = x at *
          generalize (l[k]).y = y at *
          go_wp2_with fail
          go_roundw
          case rel =>
            refine ⟨k + 1, by omega, by go_num, by unfold Hid; rw [hst.out.1, hst.out.2.1, hst.out.2.2.1, hst.out.2.2.2, mn_self, mn_self, mx_self, mx_self]; exact ((HF.out.set4 _ _ _ _).set4 _ _ _ _).alloc (by simp [World.setCell]; omega) _, ((HR.out.far (by omega) _ _ _ _).far (by omega) _ _ _ _).alloc (by simp [World.setCell]; omega) _, ?_, by simp [World.setCell]; omega⟩
            exact Below.alloc ((((((((hbel.setCell hBle _).setCell hBle _).setCell hBle _).setCell hBle _).setCell hBle _).setCell hBle _).setCell hBle _).setCell hBle _) (by simp [World.setCell]; omega) _
          case measure => simp [intOf]; omega
        · have hk0' : ((k : Int) == 0) = false := by simp [hk0]
          have hst : Hid _ := box_step hkx hk0
          clear hk0
          generalize (l[k]).path.length = pn at *
          generalize (l[k]).x = x at *
          generalize (l[k]).y = y at *
          go_wp2_with fail
          go_roundw
          case rel =>
            refine ⟨k + 1, by omega, by go_num, by unfold Hid; rw [hst.out.1, hst.out.2.1, hst.out.2.2.1, hst.out.2.2.2]; exact (HF.out.set4 _ _ _ _).alloc (by simp [World.setCell]; omega) _, (HR.out.far (by omega) _ _ _ _).alloc (by simp [World.setCell]; omega) _, ?_, by simp [World.setCell]; omega⟩
            exact Below.alloc ((((hbel.setCell hBle _).setCell hBle _).setCell hBle _).setCell hBle _) (by simp [World.setCell]; omega) _
          case measure => simp [intOf]; omega
      · have hkn : k = l.length := by have := Hnx.out; omega
        have Hv : Hid (l.take k = l) := by unfold Hid; rw [hkn, List.take_length]
        rw [Hv.out] at d0 d1 d2 d3
        obtain ⟨⟨r0, r1, r2, r3⟩, s0, s1, s2, s3⟩ := HR.out
        clear hkn
        go_wp2
        refine bodyPost_ret (v := .tuple #[boxV l, .int .i64 0]) (by simp [results, Tryd.results6, go_sem, boxV, r0, r1, r2, r3]) rfl ⟨rfl, ?_⟩
        exact (((hbel.setCell (by simp) _).setCell (by simp) _).setCell (by simp) _).setCell (by simp) _

theorem chBox_any (A : Option Addr) (n c : Nat) (l : List Spot) (w : World) (S : Nat → Prop) (hn63 : n ≤ 9223372036854775807) (hl : SlV rSpot w S l (.slice A n c)) :
    Calls Tryd.prog 4 #[.slice A n c] w fun e w' => e = .returned (.tuple #[boxR l, .int .i64 (boxErr l)]) ∧ Below w.heap.size w w' := by
  unfold boxR boxErr
  cases hm : mayB l
  · exact box_no A n c l w S hn63 hm hl
  · exact box_ok A n c l w S hn63 hm hl
end Go.Proofs.YtkpbnbnfgadkcaaDoor
