/-
  The law TreeFinds, walked.
-/
import Derived.Test.YtanipbpphbkmcaaGreatDoorInsD
import Derived.Test.YtanipbpphbkmcaaGreatDoorParent
import Derived.Test.YtanipbpphbkmcaaGreatDoorLives
import Derived.Deep.RegionHeld3
set_option autoImplicit false
set_option relaxedAutoImplicit false
set_option linter.unusedVariables false
set_option linter.unusedSimpArgs false
namespace Go.Proofs.YtanipbpphbkmcaaGreatDoor
open Go.Rows Go.RowKit Go.Shelf Go.Sort

set_option maxHeartbeats 1600000 in
set_option maxRecDepth 100000 in
theorem places_any (A B : Option Addr) (n c d : Nat) (l : List Int) (w : World) (S T : Nat → Prop) (hx : SlV rInt w S l (.slice A n c)) (hy : SlV rInt w T l (.slice B n d)) :
    Calls Tryz.prog 26 #[.slice A n c, .slice B n d] w fun e w' => e = .returned (.bool true) ∧ Below w.heap.size w w' := by
  have hnx := hx.n_eq
  have hcx := hx.cap_le
  have hcy := hy.cap_le
  unfold maxLen at hcx hcy
  have hn63 : n ≤ 9223372036854775807 := by omega
  have HX := Lib.hid hx
  have HY := Lib.hid hy
  have Hnx := Lib.hid hnx
  clear hx hy hnx hcx hcy
  have hle : ((n : Int) != (n : Int)) = false := by simp
  go_enter Tryz.func26, Tryz.ntmps26
  go_wp2_with fail
  go_loopw [5] (fun i wr => ∃ k : Nat, k ≤ n ∧ i = .int .i64 k ∧ Below w.heap.size w wr) (fun i _ => n - (intOf i).toNat)
  case atStart => exact ⟨0, Nat.zero_le _, rfl, Below.refl _ _⟩
  case round =>
    obtain ⟨k, hk, rfl, hb⟩ := hrel
    by_cases hlt : k < n
    · have hkl : k < l.length := by have := Hnx.out; omega
      obtain ⟨b, o, cs, rfl, _, _, ⟨rfl, _⟩, hcell⟩ := (HX.out.belowSize hb).elem (List.getElem?_eq_getElem hkl)
      obtain ⟨b', o', cs', rfl, _, _, ⟨rfl, _⟩, hcell'⟩ := (HY.out.belowSize hb).elem (List.getElem?_eq_getElem hkl)
      have c0 := hcell 0 _ rfl
      have d0 := hcell' 0 _ rfl
      simp only [rInt, Nat.add_zero, Nat.mul_one] at c0 d0
      generalize l[k] = x at *
      have hxx : (x != x) = false := by simp
      have hkI : (k : Int) < (n : Int) := by omega
      have hk0 : (0 : Int) ≤ (k : Int) := by omega
      clear hcell hcell'
      have r_c0 := cell_regrown c0
      have r_d0 := cell_regrown d0
      go_wp2_with fail
      refine wp_region_qb (by kernel_rfl) (by kernel_rfl) ?_
      repeat (go_big_quiet_step (first | fail))
      refine wpQuiet_nil ?_
      intro w3 B3
      have Q3 := Lib.hid (bot hb B3)
      clear c0 d0 r_c0 r_d0 B3 hb
      go_wp2_with fail
      go_roundw
      case rel => exact ⟨k + 1, by omega, by go_num, Q3.out⟩
      case measure => simp [intOf]; omega
    · have hlt' : ¬ (k : Int) < (n : Int) := by omega
      go_wp2_with fail
      go_ret
      exact ⟨rfl, hb⟩

set_option maxHeartbeats 3200000 in
set_option maxRecDepth 100000 in
theorem treeFinds_any (A : Option Addr) (n c : Nat) (xs : List Dir) (B : Option Addr) (m d : Nat) (ps : List ByteArray) (x : Int) (w : World) (ht : Tab w) (hx : SlV rDir w (fun b => b < w.heap.size) xs (.slice A n c)) (hlen : ∀ d ∈ xs, d.path.length * 32 ≤ 140737488355328)
    (hnb : xs.length ≤ 1048576) (hp : SlV rStr w (fun b => b < w.heap.size) ps (.slice B m d)) (hpl : ps.length ≤ 1048576) (hI : I64 x) :
    Calls Tryz.prog 8 #[.agg #[.slice A n c], .slice B m d, .int .i64 x] w fun e w' => e = .returned (.bool true) ∧ Below w.heap.size w w' := by
  have hnx := hx.n_eq
  have hcx := hx.cap_le
  unfold maxLen at hcx
  have hn63 : n ≤ 9223372036854775807 := by omega
  have HX := Lib.hid hx
  have Hf1 : Hid (∀ pp vA vm vc S W, Below w.heap.size w W → SlV rStr w S pp (.slice vA vm vc) → Calls Tryz.prog 23 #[.agg #[.slice A n c], .slice vA vm vc] W fun e w' => e = .returned (.int .i64 (findI xs pp)) ∧ Below W.heap.size W w') := fun pp vA vm vc S W hW hv => find_any _ _ _ _ _ _ xs pp W _ _ (hx.belowSize hW) (hv.belowSize hW)
  have Hf2 : Hid (∀ pp vA vm vc S W, Below w.heap.size w W → SlV rStr w S pp (.slice vA vm vc) → Calls Tryz.prog 18 #[.agg #[.slice A n c], .slice vA vm vc] W fun e w' => e = .returned (.int .i64 (findI xs pp)) ∧ Below W.heap.size W w') := fun pp vA vm vc S W hW hv => refFind_any _ _ _ _ _ _ xs pp W _ _ (hx.belowSize hW) (hv.belowSize hW)
  have Hp1 : Hid (∀ i W, Below w.heap.size w W → Calls Tryz.prog 24 #[.agg #[.slice A n c], .int .i64 i] W fun e w' => e = .returned (.int .i64 (parentI xs i)) ∧ Below W.heap.size W w') := fun i W hW => parent_any _ _ _ xs W _ i (hx.belowSize hW)
  have Hp2 : Hid (∀ i W, Below w.heap.size w W → Calls Tryz.prog 25 #[.agg #[.slice A n c], .int .i64 i] W fun e w' => e = .returned (.int .i64 (parentI xs i)) ∧ Below W.heap.size W w') := fun i W hW => refParent_any _ _ _ xs W _ i (hx.belowSize hW)
  have Hi1 : Hid (∀ i W, Below w.heap.size w W → Calls Tryz.prog 27 #[.agg #[.slice A n c], .int .i64 i] W fun e w' => (∃ v, e = .returned v ∧ SlV rInt w' (fun b => W.heap.size ≤ b) (castL (insideI xs i)) v) ∧ Below W.heap.size W w') := fun i W hW => inside_any _ _ _ xs i W _ (hx.belowSize hW) hlen hnb
  have Hi2 : Hid (∀ i W, Below w.heap.size w W → Calls Tryz.prog 28 #[.agg #[.slice A n c], .int .i64 i] W fun e w' => (∃ v, e = .returned v ∧ SlV rInt w' (fun b => W.heap.size ≤ b) (castL (insideI xs i)) v) ∧ Below W.heap.size W w') := fun i W hW => refInside_any _ _ _ xs i W _ (hx.belowSize hW) hlen hnb
  have Hlv : Hid (∀ W, Below w.heap.size w W → Calls Tryz.prog 12 #[] W fun e w' => e = .returned (.bool true) ∧ Below W.heap.size W w') := fun W hW => lives_any W (tab_below ht hW)
  have HPs := Lib.hid hp
  have Hnx := Lib.hid hnx
  clear hx hlen ht hnx hcx hI hnb hp
  go_enter Tryz.func8, Tryz.ntmps8
  go_wp2_with fail
  obtain ⟨w0, hw0⟩ : ∃ w0, w0 = w.alloc (.cells #[.slice A n c] 24) := ⟨_, rfl⟩
  have hz : w.heap.size < w0.heap.size := by rw [hw0]; simp [go_sem]
  have HB0 : Hid (Below w.heap.size w w0) := by unfold Hid; rw [hw0]; exact bal (Below.refl _ _) _
  have a0 : w0.cell? ⟨w.heap.size, 0, none⟩ = some (.slice A n c) := by rw [hw0]; simp [go_sem]
  rw [← hw0]
  clear hw0
  have HA0 := Lib.hid a0
  have H1 := Lib.hid (qcall (w := w0) (fun W hW => Hf1.out ps _ _ _ _ W (bot HB0.out hW) HPs.out))
  have H2 := Lib.hid (qcall (w := w0) (fun W hW => Hf2.out ps _ _ _ _ W (bot HB0.out hW) HPs.out))
  have H3 := Lib.hid (qcall (w := w0) (fun W hW => Hp1.out x W (bot HB0.out hW)))
  have H4 := Lib.hid (qcall (w := w0) (fun W hW => Hp2.out x W (bot HB0.out hW)))
  generalize findI xs ps = F at *
  generalize parentI xs x = P at *
  have hFF : (F != F) = false := by simp
  have hPP : (P != P) = false := by simp
  have r_a0 := cell_regrown a0
  go_wp2_with fail
  refine wp_region_qb (by kernel_rfl) (by kernel_rfl) ?_
  repeat (go_big_quiet_step (first | (with_reducible exact H1.out _ _) | (with_reducible exact H2.out _ _) | (with_reducible exact H3.out _ _) | (with_reducible exact H4.out _ _)))
  refine wpQuiet_nil ?_
  intro w1 B1
  have Q1 := Lib.hid B1
  have b0 := below_cell B1 a0 hz
  clear B1 a0 r_a0 H1 H2 H3 H4 hFF hPP
  go_wp2_with fail
  have Hc1 := Lib.hid (fun W (hW : Below w0.heap.size w0 W) => Hi1.out x W (bot HB0.out hW))
  have Hc2 := Lib.hid (fun W (hW : Below w0.heap.size w0 W) => Hi2.out x W (bot HB0.out hW))
  generalize castL (insideI xs x) = L at *
  go_region_held3 (fun w' => w'.cell? ⟨w.heap.size, 0, none⟩ = some (.slice A n c) ∧ Below w0.heap.size w0 w')
    (first
      | exact ⟨b0, Q1.out.drew⟩
      | (go_split_ands; exact keepL (by assumption) (by assumption) (by assumption) hz))
    (first
      | (go_at_call 27; go_split_ands; with_reducible refine (Hc1.out _ (by assumption)).mono ?_; rintro e w2 ⟨⟨v, rfl, hvI⟩, hbI⟩; obtain ⟨vA, vc, rfl, _, _⟩ := hvI.val)
      | (go_at_call 28; go_split_ands; with_reducible refine (Hc2.out _ (by assumption)).mono ?_; rintro e w3 ⟨⟨u, rfl, hvR⟩, hbR⟩; obtain ⟨uA, uc, rfl, _, _⟩ := hvR.val)
      | (go_at_call 26; go_split_ands; (first | refine (places_any _ _ _ _ _ L _ _ _ (hvI.belowSize hbR) hvR).mono ?_ | refine (places_any _ _ _ _ _ L _ _ _ hvI (hvR.belowSize hbI)).mono ?_); rintro e w4 ⟨rfl, hbP⟩))
  all_goals
    have HB4 : Hid (Below w0.heap.size w0 w4) := by (go_split_ands; assumption)
    clear b0 Hc1 Hc2
    go_wp2_with fail
    go_loopw [8] (fun i wr => ∃ k : Nat, k ≤ n ∧ i = .int .i64 k ∧ Below w0.heap.size w0 wr) (fun i _ => n - (intOf i).toNat)
    case atStart => exact ⟨0, Nat.zero_le _, rfl, HB4.out⟩
    case round =>
      obtain ⟨k, hk, rfl, hbel⟩ := hrel
      have b0 := below_cell hbel HA0.out hz
      have hbw := bot HB0.out hbel
      by_cases hlt : k < n
      case neg =>
        have hlt' : ¬ (k : Int) < (n : Int) := by omega
        go_wp2_with fail
        refine (Hlv.out wr hbw).mono ?_
        rintro e w8 ⟨rfl, B8⟩
        go_wp2_with fail
        go_ret
        exact ⟨rfl, bot hbw B8⟩
      have hkx : k < xs.length := by have := Hnx.out; omega
      have hkI : (k : Int) < (n : Int) := by omega
      have hk0 : (0 : Int) ≤ (k : Int) := by omega
      have Hd1 := Lib.hid (fun W (hW : Below w0.heap.size w0 W) => Hi1.out (k : Int) W (bot HB0.out hW))
      have Hd2 := Lib.hid (fun W (hW : Below w0.heap.size w0 W) => Hi2.out (k : Int) W (bot HB0.out hW))
      generalize castL (insideI xs (k : Int)) = L2 at *
      have Hbel := Lib.hid hbel
      go_wp2_with fail
      go_region_held3 (fun w' => w'.cell? ⟨w.heap.size, 0, none⟩ = some (.slice A n c) ∧ Below w0.heap.size w0 w')
        (first
          | exact ⟨b0, Hbel.out.drew⟩
          | (go_split_ands; exact keepL (by assumption) (by assumption) (by assumption) hz))
        (first
          | (go_at_call 27; go_split_ands; with_reducible refine (Hd1.out _ (by assumption)).mono ?_; rintro e w5 ⟨⟨v, rfl, hvI⟩, hbI⟩; obtain ⟨vA, vc, rfl, _, _⟩ := hvI.val)
          | (go_at_call 28; go_split_ands; with_reducible refine (Hd2.out _ (by assumption)).mono ?_; rintro e w6 ⟨⟨u, rfl, hvR⟩, hbR⟩; obtain ⟨uA, uc, rfl, _, _⟩ := hvR.val)
          | (go_at_call 26; go_split_ands; (first | refine (places_any _ _ _ _ _ L2 _ _ _ (hvI.belowSize hbR) hvR).mono ?_ | refine (places_any _ _ _ _ _ L2 _ _ _ hvI (hvR.belowSize hbI)).mono ?_); rintro e w7 ⟨rfl, hbP⟩))
      all_goals
        have HB7 : Hid (Below w0.heap.size w0 w7) := by (go_split_ands; assumption)
        clear b0 Hd1 Hd2 hbel hbw
        have b0 := below_cell HB7.out HA0.out hz
        have hbw7 := bot HB0.out HB7.out
        obtain ⟨b, o, cs, hAe, _, hb1, hh, hcell⟩ := HX.out.elem (List.getElem?_eq_getElem hkx)
        obtain ⟨s0, s1, s2, s3, rfl, hpp, _, _, _, _, _, _, _, _⟩ := hh
        obtain ⟨pA, pc, rfl, _, _⟩ := hpp.val
        subst hAe
        have c1 := below_cell hbw7 (hcell 0 _ rfl) hb1
        simp only [rDir, Nat.add_zero] at c1
        have G1 := Lib.hid (qcall (w := w7) (fun W hW => Hf1.out xs[k].path _ _ _ _ W (bot hbw7 hW) hpp))
        have G2 := Lib.hid (qcall (w := w7) (fun W hW => Hf2.out xs[k].path _ _ _ _ W (bot hbw7 hW) hpp))
        have G3 := Lib.hid (qcall (w := w7) (fun W hW => Hp1.out (k : Int) W (bot hbw7 hW)))
        have G4 := Lib.hid (qcall (w := w7) (fun W hW => Hp2.out (k : Int) W (bot hbw7 hW)))
        clear hcell hpp
        generalize findI xs xs[k].path = F2 at *
        generalize parentI xs (k : Int) = P2 at *
        generalize xs[k].path.length = l2 at *
        have hFF : (F2 != F2) = false := by simp
        have hPP : (P2 != P2) = false := by simp
        have r_b0 := cell_regrown b0
        have r_c1 := cell_regrown c1
        go_wp2_with fail
        go_wp2_with fail
        refine wp_region_qb (by kernel_rfl) (by kernel_rfl) ?_
        repeat (go_big_quiet_step (first | (with_reducible exact G1.out _ _) | (with_reducible exact G2.out _ _) | (with_reducible exact G3.out _ _) | (with_reducible exact G4.out _ _)))
        refine wpQuiet_nil ?_
        intro w8 B8
        have Q8 := Lib.hid (bot HB7.out B8)
        clear b0 c1 r_b0 r_c1 B8 G1 G2 G3 G4 hFF hPP
        go_wp2_with fail
        go_roundw
        case rel => exact ⟨k + 1, by omega, by go_num, Q8.out⟩
        case measure => simp [intOf]; omega
end Go.Proofs.YtanipbpphbkmcaaGreatDoor
