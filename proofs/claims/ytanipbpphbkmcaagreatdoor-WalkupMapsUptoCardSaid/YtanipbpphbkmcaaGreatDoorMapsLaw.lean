/-
  The law WalkupMaps, walked.
-/
import Derived.Test.YtanipbpphbkmcaaGreatDoorLives13
import Derived.Test.YtanipbpphbkmcaaGreatDoorMapR
set_option autoImplicit false
set_option relaxedAutoImplicit false
set_option linter.unusedVariables false
set_option linter.unusedSimpArgs false
namespace Go.Proofs.YtanipbpphbkmcaaGreatDoor
open Go.Rows Go.RowKit Go.Shelf Go.Sort

set_option maxHeartbeats 3200000 in
set_option maxRecDepth 100000 in
theorem walkupMaps_any (A : Option Addr) (n c : Nat) (xs : List Dir) (B : Option Addr) (m d : Nat) (gs : List Node) (w : World) (ht : Tab w) (hx : SlV rDir w (fun b => b < w.heap.size) xs (.slice A n c)) (hlen : ∀ d ∈ xs, d.path.length * 32 ≤ 140737488355328)
    (hg : SlV rNode w (fun b => b < w.heap.size) gs (.slice B m d)) :
    Calls Tryz.prog 4 #[.agg #[.slice A n c], .agg #[.slice B m d]] w fun e w' => e = .returned (.bool true) ∧ Below w.heap.size w w' := by
  have Hm1 : Hid (∀ W, Below w.heap.size w W → Calls Tryz.prog 13 #[.agg #[.slice A n c], .agg #[.slice B m d]] W fun e w' => (∃ v, e = .returned (.tuple #[v, .int .i64 (mapR xs gs).2]) ∧ SlV rInt w' (fun b => W.heap.size ≤ b) ((mapR xs gs).1.getD []) v) ∧ Below W.heap.size W w') := fun W hW => map_any A B n c m d xs gs W _ _ (tab_below ht hW) hlen (hx.belowSize hW) (hg.belowSize hW)
  have Hm2 : Hid (∀ W, Below w.heap.size w W → Calls Tryz.prog 14 #[.agg #[.slice A n c], .agg #[.slice B m d]] W fun e w' => (∃ v, e = .returned (.tuple #[v, .int .i64 (mapR xs gs).2]) ∧ SlV rInt w' (fun b => W.heap.size ≤ b) ((mapR xs gs).1.getD []) v) ∧ Below W.heap.size W w') := fun W hW => refMap_any A B n c m d xs gs W _ _ hlen (hx.belowSize hW) (hg.belowSize hW)
  have Hlv : Hid (∀ W, Below w.heap.size w W → Calls Tryz.prog 15 #[] W fun e w' => e = .returned (.bool true) ∧ Below W.heap.size W w') := fun W hW => lives13_any W (tab_below ht hW)
  clear hx hlen ht hg
  generalize (mapR xs gs).1.getD [] = lst at *
  generalize (mapR xs gs).2 = z at *
  go_enter Tryz.func4, Tryz.ntmps4
  go_wp2_with fail
  obtain ⟨w0, hw0⟩ : ∃ w0, w0 = (w.alloc (.cells #[.slice A n c] 24)).alloc (.cells #[.slice B m d] 31) := ⟨_, rfl⟩
  have hz : w.heap.size < w0.heap.size := by rw [hw0]; simp [go_sem]
  have hz1 : w.heap.size + 1 < w0.heap.size := by rw [hw0]; simp [go_sem]
  have HB0 : Hid (Below w.heap.size w w0) := by unfold Hid; rw [hw0]; exact bal (bal (Below.refl _ _) _) _
  have a0 : w0.cell? ⟨w.heap.size, 0, none⟩ = some (.slice A n c) := by rw [hw0]; simp [go_sem]
  have a1 : w0.cell? ⟨w.heap.size + 1, 0, none⟩ = some (.slice B m d) := by rw [hw0]; simp [go_sem]
  rw [← hw0]
  clear hw0
  refine (Hm1.out w0 HB0.out).mono ?_
  rintro e w1 ⟨⟨v, rfl, hv⟩, B1⟩
  obtain ⟨vA, vc, rfl, hvl, hvm⟩ := hv.val
  unfold maxLen at hvm
  have b0 := below_cell B1 a0 hz
  have b1 := below_cell B1 a1 hz1
  have Q1 := Lib.hid B1
  have HV := Lib.hid hv
  clear B1 hv a0 a1 Hm1
  generalize hll : lst.length = l1 at *
  have Hll := Lib.hid hll; clear hll
  go_wp2_with fail
  refine (Hm2.out w1 (bot HB0.out Q1.out)).mono ?_
  rintro e w2 ⟨⟨u, rfl, hu⟩, B2⟩
  obtain ⟨uA, uc, rfl, hul, hum⟩ := hu.val
  unfold maxLen at hum
  rw [Hll.out] at hul ⊢
  have Q2 := Lib.hid (bot Q1.out B2)
  have HV2 := Lib.hid (HV.out.belowSize B2)
  have HU := Lib.hid hu
  have hle : ((l1 : Int) != (l1 : Int)) = false := by simp
  have hze : (z != z) = false := by simp
  clear B2 hu b0 b1 Hm2
  go_wp2_with fail
  go_loopw [9] (fun i wr => ∃ k : Nat, k ≤ l1 ∧ i = .int .i64 k ∧ Below w2.heap.size w2 wr) (fun i _ => l1 - (intOf i).toNat)
  case atStart => exact ⟨0, Nat.zero_le _, rfl, Below.refl _ _⟩
  case round =>
    obtain ⟨k, hk, rfl, hb⟩ := hrel
    by_cases hlt : k < l1
    · have hkl : k < lst.length := by have := Hll.out; omega
      obtain ⟨b, o, cs, rfl, _, _, ⟨rfl, _⟩, hcell⟩ := (HV2.out.belowSize hb).elem (List.getElem?_eq_getElem hkl)
      obtain ⟨b', o', cs', rfl, _, _, ⟨rfl, _⟩, hcell'⟩ := (HU.out.belowSize hb).elem (List.getElem?_eq_getElem hkl)
      have c0 := hcell 0 _ rfl
      have d0 := hcell' 0 _ rfl
      simp only [rInt, Nat.add_zero, Nat.mul_one] at c0 d0
      generalize lst[k] = x at *
      have hxx : (x != x) = false := by simp
      have hkI : (k : Int) < (l1 : Int) := by omega
      have hk0 : (0 : Int) ≤ (k : Int) := by omega
      clear hcell hcell'
      have r_c0 := cell_regrown c0
      have r_d0 := cell_regrown d0
      go_wp2_with fail
      refine wp_region_qb (by kernel_rfl) (by kernel_rfl) ?_
      repeat (go_big_quiet_step (first | fail))
      refine wpQuiet_nil ?_
      intro w3 B3
      have Q3 := Lib.hid (bot hb B3)
      clear c0 d0 r_c0 r_d0 B3 hb
      go_wp2_with fail
      go_roundw
      case rel => exact ⟨k + 1, by omega, by go_num, Q3.out⟩
      case measure => simp [intOf]; omega
    · have hlt' : ¬ (k : Int) < (l1 : Int) := by omega
      have hbw := bot (bot HB0.out Q2.out) hb
      go_wp2_with fail
      refine (Hlv.out wr hbw).mono ?_
      rintro e w3 ⟨rfl, B3⟩
      go_wp2_with fail
      go_ret
      exact ⟨rfl, bot hbw B3⟩
end Go.Proofs.YtanipbpphbkmcaaGreatDoor
